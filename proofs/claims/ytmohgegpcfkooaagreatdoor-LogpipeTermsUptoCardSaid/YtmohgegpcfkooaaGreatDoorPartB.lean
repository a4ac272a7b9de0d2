/- A part of the proof: QV52, QV9, ZW1, ZPOrd, ZW2, ZW4, ZW7, ZW8, ZW9, ZW9a, ZW10, ZPTerms, ZW12, ZPSort, ZY6, ZY9, S1, S2, S3, S4, S5, S6 -/
import Derived.Test.YtmohgegpcfkooaaGreatDoorPartA
import Derived.KernelRfl
import Derived.Sort.Walk0
import Derived.Test.YtmohgegpcfkooaaGreatDoorProg
import Derived.Lib.IndexMore
import Derived.Lib.Strings
import Derived.Lib.TrimByte
set_option linter.all false
set_option linter.unusedSectionVars false
set_option linter.unusedVariables false
set_option linter.unusedSimpArgs false
section
namespace Go.Proofs.YtmohgegpcfkooaaGreatDoor.Al
open Go.Fw
variable [Gl]
set_option maxRecDepth 20000
set_option maxHeartbeats 4000000
theorem rx_all (s : By) (hs : s.length ≤ 200) : ∀ (n i : Nat), s.length - i ≤ n → i ≤ s.length → PE s i := by
  intro n
  induction n with
  | zero =>
    intro i hn hi
    refine rx_choice s i hs hi fun k h1 h2 => ?_
    exact rx_atom s k hs h2 fun h => absurd h (by omega)
  | succ n ih =>
    intro i hn hi
    refine rx_choice s i hs hi fun k h1 h2 => ?_
    exact rx_atom s k hs h2 fun h => ih (k + 1) (by omega) (by omega)
def PrsA (s : By) (v : V) : Prop := (rxC s = 0 ∧ ∃ cs, v = .tup [.fptr cs 0, .bool true]) ∨ (rxC s ≠ 0 ∧ v = .tup [.nilptr, .bool false])
theorem rx_parse (s : By) (hs : s.length < 4611686018427387904) : ETri Tryz.prog 131 [.str s] (PrsA s) := by
  have hE := rxC.eq_1 s
  refine ETri.of_safe Tryz.func131 rfl Tryz.results131 Tryz.ntmps131 rfl ?_
  refine go 99 rfl ?_
  refine Safe.br rfl (fun a => ?_) (fun a => ?_)
  · have a1 : 200 < s.length := by have := of_decide_eq_true a; omega
    rw [if_pos a1] at hE
    refine go 99 rfl ?_
    exact ⟨.inr rfl, trivial, .done rfl rfl (.inr ⟨by rw [hE]; decide, rfl⟩)⟩
  · have a1 : ¬ 200 < s.length := by have := of_decide_eq_false a; omega
    rw [if_neg a1] at hE
    refine go 99 rfl ?_
    refine Safe.callL (rest := []) (sgI 1) (rx_all s (by omega) s.length 0 (by omega) (by omega) (2 * s.length + 2) (by omega)) rfl rfl rfl rfl (.refl _) (fun v h' nx' e => ?_)
    obtain ⟨j, hj, rfl, rfl, e⟩ := e
    rcases e with ⟨e1, x, rfl⟩ | ⟨e1, rfl⟩
    · rw [e1] at hE
      dsimp only at hE
      refine go 99 rfl ?_
      first | refine Safe.gsK true rfl rfl ?_ | refine Safe.gsK false rfl rfl ?_ | refine Safe.brT rfl rfl ?_ | refine Safe.brF rfl rfl ?_
      refine go 99 rfl ?_
      refine Safe.br rfl (fun c => ?_) (fun c => ?_)
      · have c1 : ¬ j = s.length := fun h => by subst h; simp at c
        rw [if_neg c1] at hE
        refine go 99 rfl ?_
        exact ⟨.inr rfl, trivial, .done rfl rfl (.inr ⟨by rw [hE]; decide, rfl⟩)⟩
      · have c1 : j = s.length := by have := of_decide_eq_true (p := (j : Int) = s.length) (by simpa using c); omega
        rw [if_pos c1] at hE
        refine go 99 rfl ?_
        exact ⟨.inr rfl, trivial, .done rfl rfl (.inl ⟨hE, x, rfl⟩)⟩
    · rw [e1] at hE
      dsimp only at hE
      refine go 99 rfl ?_
      first | refine Safe.gsK true rfl rfl ?_ | refine Safe.gsK false rfl rfl ?_ | refine Safe.brT rfl rfl ?_ | refine Safe.brF rfl rfl ?_
      refine go 99 rfl ?_
      exact ⟨.inr rfl, trivial, .done rfl rfl (.inr ⟨by rw [hE]; decide, rfl⟩)⟩
theorem rxC_3 {s : By} (h : ¬ 200 < s.length) (h0 : rxC s ≠ 0) : rxC s = 3 := by
  unfold rxC at h0 ⊢
  rw [if_neg h] at h0 ⊢
  split
  · rename_i j hj
    split
    · rename_i h1; simp [hj, h1] at h0
    · rfl
  · rfl
theorem alg_rx : AlgRx rxC := by
  intro s hs
  simp only [big] at hs
  refine ETri.p ?_
  refine ETri.of_safe Tryz.func82 rfl Tryz.results82 Tryz.ntmps82 rfl ?_
  refine go 99 rfl ?_
  refine Safe.br rfl (fun a => ?_) (fun a => ?_)
  · have a1 : 200 < s.length := by have := of_decide_eq_true a; omega
    refine go 99 rfl ?_
    exact ⟨.inr rfl, trivial, .done rfl rfl (by rw [rxC, if_pos a1])⟩
  · have a1 : ¬ 200 < s.length := by have := of_decide_eq_false a; omega
    refine go 99 rfl ?_
    refine Safe.callE (rx_parse s (by omega)) rfl rfl rfl ?_
    rintro v hv (⟨e, x, rfl⟩ | ⟨e, rfl⟩)
    · refine go 99 rfl ?_
      first | refine Safe.gsK true rfl rfl ?_ | refine Safe.gsK false rfl rfl ?_ | refine Safe.brT rfl rfl ?_ | refine Safe.brF rfl rfl ?_
      refine go 99 rfl ?_
      exact ⟨.inr rfl, trivial, .done rfl rfl (by rw [e])⟩
    · refine go 99 rfl ?_
      first | refine Safe.gsK true rfl rfl ?_ | refine Safe.gsK false rfl rfl ?_ | refine Safe.brT rfl rfl ?_ | refine Safe.brF rfl rfl ?_
      refine go 99 rfl ?_
      exact ⟨.inr rfl, trivial, .done rfl rfl (by rw [rxC_3 a1 e])⟩
end Go.Proofs.YtmohgegpcfkooaaGreatDoor.Al
end

section
namespace Go.Proofs.YtmohgegpcfkooaaGreatDoor.Al
open Go.Fw
variable [Gl]
set_option maxRecDepth 20000
set_option maxHeartbeats 2000000
variable {rx : By → Int}
theorem nmS_false : nmS false = isNm := by funext s; simp [nmS]
def badS (x : Stg) : Bool := (!decide (x.kind ≤ 3) && !(x.text == [])) || (decide (6 ≤ x.kind) != decide (0 < (x.names.length : Int))) || ((x.kind == 5) != decide (0 < (x.ms.length : Int))) || (decide (x.kind ≤ 2) && x.text == [])
def stgE (rx : By → Int) (x : Stg) : Int :=
  if x.kind < 1 ∨ 8 < x.kind then 8 else if badS x = true then 1 else if x.kind ≤ 2 ∧ 200 < x.text.length then 4 else if x.kind = 3 ∧ rx x.text ≠ 0 then rx x.text else if matsE rx x.ms ≠ 0 then matsE rx x.ms else namesE isNm x.names
abbrev stgV (x : Stg) : V := .agg (stgC x)
theorem ref_stg (H : RefRx rx) (x : Stg) (ho : okS x) : PTri Tryz.prog 63 [stgV x] (nI (stgE rx x)) := by
  refine PTri.of_safe Tryz.func63 rfl Tryz.results63 Tryz.ntmps63 rfl ?_
  refine go 99 rfl ?_
  refine Safe.cut1 (α := Unit) (fun _ => [(1, .ptr 0 0)]) (fun _ => [(0, .cells 47 (stgC x) 4)]) 1 (fun _ => ¬ (x.kind < 1 ∨ 8 < x.kind)) ?_ ?_
  · repeat' (first | (refine Safe.gs rfl (fun a => ?_) (fun a => ?_) <;> refine go 99 rfl ?_) | (refine Safe.br rfl (fun a => ?_) (fun a => ?_) <;> refine go 99 rfl ?_))
    all_goals first
      | exact ⟨.inr rfl, trivial, .done (nIeq (by simp only [stgE]; rw [if_pos (by simp at *; omega)])) rfl⟩
      | exact ⟨sgI 1, (), by simp at *; omega, rfl, rfl, ⟨fit rfl, trivial⟩, ⟨_, .refl _, .refl _⟩, rfl⟩
  · rintro ⟨⟩ h1
    refine go 99 rfl ?_
    refine Safe.cut1 (α := Unit) (fun _ => [(1, .ptr 0 0)]) (fun _ => [(0, .cells 47 (stgC x) 4)]) 1 (fun _ => badS x = false) ?_ ?_
    · repeat' (first | (refine Safe.gs rfl (fun a => ?_) (fun a => ?_) <;> refine go 99 rfl ?_) | (refine Safe.br rfl (fun a => ?_) (fun a => ?_) <;> refine go 99 rfl ?_))
      all_goals first
        | (have hb : badS x = true := (by first | (simp_all [badS]; done) | (simp_all [badS]; omega) | (simp_all [badS]; intros; omega) | (rw [Bool.eq_iff_iff]; simp_all [badS]; omega))
           exact ⟨.inr rfl, trivial, .done (nIeq (by simp only [stgE]; rw [if_neg h1, if_pos hb])) rfl⟩)
        | exact ⟨sgI 1, (), (by first | (simp_all [badS]; done) | (simp_all [badS]; omega) | (simp_all [badS]; intros; omega) | (rw [Bool.eq_iff_iff]; simp_all [badS]; omega)), rfl, rfl, ⟨fit rfl, trivial⟩, ⟨_, .refl _, .refl _⟩, rfl⟩
    · rintro ⟨⟩ h2
      have hb : ¬ badS x = true := by rw [h2]; simp
      refine go 99 rfl ?_
      refine Safe.cut1 (α := Unit) (fun _ => [(1, .ptr 0 0)]) (fun _ => [(0, .cells 47 (stgC x) 4)]) 1 (fun _ => ¬ (x.kind ≤ 2 ∧ 200 < x.text.length)) ?_ ?_
      · repeat' (first | (refine Safe.gs rfl (fun a => ?_) (fun a => ?_) <;> refine go 99 rfl ?_) | (refine Safe.br rfl (fun a => ?_) (fun a => ?_) <;> refine go 99 rfl ?_))
        all_goals first
          | exact ⟨.inr rfl, trivial, .done (nIeq (by simp only [stgE]; rw [if_neg h1, if_neg hb, if_pos (by simp at *; omega)])) rfl⟩
          | exact ⟨sgI 1, (), by simp at *; omega, rfl, rfl, ⟨fit rfl, trivial⟩, ⟨_, .refl _, .refl _⟩, rfl⟩
      · rintro ⟨⟩ h3
        refine go 99 rfl ?_
        refine Safe.call (H x.text ho.1) rfl rfl rfl ?_
        refine go 99 rfl ?_
        refine Safe.cut1 (α := Unit) (fun _ => [(1, .ptr 0 0)]) (fun _ => [(0, .cells 47 (stgC x) 4)]) 1 (fun _ => ¬ (x.kind = 3 ∧ rx x.text ≠ 0)) ?_ ?_
        · repeat' (first | (refine Safe.gs rfl (fun a => ?_) (fun a => ?_) <;> refine go 99 rfl ?_) | (refine Safe.br rfl (fun a => ?_) (fun a => ?_) <;> refine go 99 rfl ?_))
          all_goals first
            | exact ⟨.inr rfl, trivial, .done (nIeq (by simp only [stgE]; rw [if_neg h1, if_neg hb, if_neg h3, if_pos (by simp_all)])) rfl⟩
            | exact ⟨sgI 1, (), by simp_all, rfl, rfl, ⟨fit rfl, trivial⟩, ⟨_, .refl _, .refl _⟩, rfl⟩
        · rintro ⟨⟩ h4
          refine go 99 rfl ?_
          refine Safe.call (ref_mats H x.ms ho.2.1) rfl rfl rfl ?_
          refine go 99 rfl ?_
          refine Safe.br rfl (fun c => ?_) (fun c => ?_)
          · refine go 99 rfl ?_
            exact ⟨.inr rfl, trivial, .done (nIeq (by simp only [stgE]; rw [if_neg h1, if_neg hb, if_neg h3, if_neg h4, if_pos (by simpa using c)])) rfl⟩
          · refine go 99 rfl ?_
            refine Safe.call (ref_names x.names ho.2.2) rfl rfl rfl ?_
            refine go 99 rfl ?_
            exact ⟨.inr rfl, trivial, .done (nIeq (by simp only [stgE]; rw [if_neg h1, if_neg hb, if_neg h3, if_neg h4, if_neg (by simpa using c)])) rfl⟩
theorem alg_stg (H : AlgRx rx) (x : Stg) (ho : okS x) : PTri Tryz.prog 58 [stgV x] (nI (stgE rx x)) := by
  refine PTri.of_safe Tryz.func58 rfl Tryz.results58 Tryz.ntmps58 rfl ?_
  refine go 99 rfl ?_
  refine Safe.cut1 (α := Unit) (fun _ => [(1, .ptr 0 0)]) (fun _ => [(0, .cells 47 (stgC x) 4)]) 1 (fun _ => ¬ (x.kind < 1 ∨ 8 < x.kind)) ?_ ?_
  · repeat' (first | (refine Safe.gs rfl (fun a => ?_) (fun a => ?_) <;> refine go 99 rfl ?_) | (refine Safe.br rfl (fun a => ?_) (fun a => ?_) <;> refine go 99 rfl ?_))
    all_goals first
      | exact ⟨.inr rfl, trivial, .done (nIeq (by simp only [stgE]; rw [if_pos (by simp at *; omega)])) rfl⟩
      | exact ⟨sgI 1, (), by simp at *; omega, rfl, rfl, ⟨fit rfl, trivial⟩, ⟨_, .refl _, .refl _⟩, rfl⟩
  · rintro ⟨⟩ h1
    refine go 99 rfl ?_
    refine Safe.cut1 (α := Unit) (fun _ => [(1, .ptr 0 0)]) (fun _ => [(0, .cells 47 (stgC x) 4)]) 1 (fun _ => (!decide (x.kind ≤ 3) && !(x.text == [])) = false ∧ (decide (6 ≤ x.kind) != decide (0 < (x.names.length : Int))) = false ∧ ((x.kind == 5) != decide (0 < (x.ms.length : Int))) = false) ?_ ?_
    · repeat' (first | (refine Safe.gs rfl (fun a => ?_) (fun a => ?_) <;> refine go 99 rfl ?_) | (refine Safe.br rfl (fun a => ?_) (fun a => ?_) <;> refine go 99 rfl ?_))
      all_goals first
        | (have hb : badS x = true := by have e0 : ({ data := #[] } : ByteArray).data.toList = [] := rfl; simp only [badS, e0] at *; generalize decide (0 < (x.ms.length : Int)) = p at *; generalize (x.kind == 5) = q at *; generalize decide (0 < (x.names.length : Int)) = r at *; generalize decide (6 ≤ x.kind) = s at *; generalize decide (x.kind ≤ 3) = u at *; generalize (x.text == []) = w at *; cases p <;> cases q <;> cases r <;> cases s <;> simp_all
           exact ⟨.inr rfl, trivial, .done (nIeq (by simp only [stgE]; rw [if_neg h1, if_pos hb])) rfl⟩)
        | exact ⟨sgI 1, (), by (have e0 : ({ data := #[] } : ByteArray).data.toList = [] := rfl; simp only [badS, e0] at *; generalize decide (0 < (x.ms.length : Int)) = p at *; generalize (x.kind == 5) = q at *; generalize decide (0 < (x.names.length : Int)) = r at *; generalize decide (6 ≤ x.kind) = s at *; generalize decide (x.kind ≤ 3) = u at *; generalize (x.text == []) = w at *; cases p <;> cases q <;> cases r <;> cases s <;> simp_all), rfl, rfl, ⟨fit rfl, trivial⟩, ⟨_, .refl _, .refl _⟩, rfl⟩
    · rintro ⟨⟩ ⟨e1, e2, e3⟩
      have f1 : 3 < x.kind → x.text = [] := fun h => by simp at e1; exact e1 h
      have f2 : 6 ≤ x.kind ↔ 0 < x.names.length := by simp at e2; omega
      have f3 : x.kind = 5 ↔ 0 < x.ms.length := by rw [bne_eq_false_iff_eq, Bool.eq_iff_iff] at e3; simpa using e3
      have n0 : ¬ 6 ≤ x.kind → x.names = [] := fun h => List.length_eq_zero_iff.1 (by omega)
      have m0 : ¬ x.kind = 5 → x.ms = [] := fun h => List.length_eq_zero_iff.1 (by omega)
      have hbad : badS x = (decide (x.kind ≤ 2) && x.text == []) := by simp only [badS, e1, e2, e3, Bool.false_or]
      have mz : matsE rx [] = 0 := rfl
      have nz : namesE isNm [] = 0 := rfl
      refine go 99 rfl ?_
      refine Safe.br rfl (fun k1 => ?_) (fun k1 => ?_)
      · have hk : x.kind = 1 := by simpa using k1
        have m1 := m0 (by omega)
        have n1 := n0 (by omega)
        refine go 99 rfl ?_
        refine Safe.br rfl (fun t => ?_) (fun t => ?_)
        · have ht : x.text = [] := by simpa using t
          have hb : badS x = true := by rw [hbad]; simp [hk, ht]
          refine go 99 rfl ?_
          exact ⟨.inr rfl, trivial, .done (nIeq (by simp only [stgE]; rw [if_neg h1, if_pos hb])) rfl⟩
        · have ht : ¬ x.text = [] := by simpa using t
          have hb : ¬ badS x = true := by rw [hbad]; simp [ht]
          refine go 99 rfl ?_
          refine Safe.br rfl (fun u => ?_) (fun u => ?_)
          · have hu : 200 < x.text.length := ltc u
            refine go 99 rfl ?_
            exact ⟨.inr rfl, trivial, .done (nIeq (by simp only [stgE]; rw [if_neg h1, if_neg hb, if_pos ⟨by omega, hu⟩])) rfl⟩
          · have hu : x.text.length ≤ 200 := gec u
            refine go 99 rfl ?_
            exact ⟨.inr rfl, trivial, .done (nIeq (by simp only [stgE]; rw [if_neg h1, if_neg hb, if_neg (by omega), if_neg (by omega), m1, n1, mz, nz]; rfl)) rfl⟩
      · have hk1 : ¬ x.kind = 1 := by simpa using k1
        refine go 99 rfl ?_
        refine Safe.br rfl (fun k2 => ?_) (fun k2 => ?_)
        · have hk : x.kind = 2 := by simpa using k2
          have m1 := m0 (by omega)
          have n1 := n0 (by omega)
          refine go 99 rfl ?_
          refine Safe.br rfl (fun t => ?_) (fun t => ?_)
          · have ht : x.text = [] := by simpa using t
            have hb : badS x = true := by rw [hbad]; simp [hk, ht]
            refine go 99 rfl ?_
            exact ⟨.inr rfl, trivial, .done (nIeq (by simp only [stgE]; rw [if_neg h1, if_pos hb])) rfl⟩
          · have ht : ¬ x.text = [] := by simpa using t
            have hb : ¬ badS x = true := by rw [hbad]; simp [ht]
            refine go 99 rfl ?_
            refine Safe.br rfl (fun u => ?_) (fun u => ?_)
            · have hu : 200 < x.text.length := ltc u
              refine go 99 rfl ?_
              exact ⟨.inr rfl, trivial, .done (nIeq (by simp only [stgE]; rw [if_neg h1, if_neg hb, if_pos ⟨by omega, hu⟩])) rfl⟩
            · have hu : x.text.length ≤ 200 := gec u
              refine go 99 rfl ?_
              exact ⟨.inr rfl, trivial, .done (nIeq (by simp only [stgE]; rw [if_neg h1, if_neg hb, if_neg (by omega), if_neg (by omega), m1, n1, mz, nz]; rfl)) rfl⟩
        · have hk2 : ¬ x.kind = 2 := by simpa using k2
          have hb : ¬ badS x = true := by rw [hbad]; simp; omega
          refine go 99 rfl ?_
          refine Safe.br rfl (fun k3 => ?_) (fun k3 => ?_)
          · have hk : x.kind = 3 := by simpa using k3
            have m1 := m0 (by omega)
            have n1 := n0 (by omega)
            refine go 99 rfl ?_
            refine Safe.call (H x.text ho.1) rfl rfl rfl ?_
            refine go 99 rfl ?_
            exact ⟨.inr rfl, trivial, .done (nIeq (by simp only [stgE]; rw [if_neg h1, if_neg hb, if_neg (by omega)]; by_cases hr : rx x.text = 0 <;> simp [hk, hr, m1, n1, mz, nz])) rfl⟩
          · have hk3 : ¬ x.kind = 3 := by simpa using k3
            refine go 99 rfl ?_
            refine Safe.br rfl (fun k5 => ?_) (fun k5 => ?_)
            · have hk : x.kind = 5 := by simpa using k5
              have n1 := n0 (by omega)
              refine go 99 rfl ?_
              refine Safe.call (alg_mats H x.ms ho.2.1) rfl rfl rfl ?_
              refine go 99 rfl ?_
              exact ⟨.inr rfl, trivial, .done (nIeq (by simp only [stgE]; rw [if_neg h1, if_neg hb, if_neg (by omega), if_neg (by omega)]; by_cases hr : matsE rx x.ms = 0 <;> simp [hr, n1, nz])) rfl⟩
            · have hk5 : ¬ x.kind = 5 := by simpa using k5
              have m1 := m0 hk5
              refine go 99 rfl ?_
              refine Safe.call (alg_names x.names false ho.2.2) rfl rfl rfl ?_
              refine go 99 rfl ?_
              exact ⟨.inr rfl, trivial, .done (nIeq (by simp only [stgE]; rw [if_neg h1, if_neg hb, if_neg (by omega), if_neg (by omega), m1, mz, nmS_false]; rfl)) rfl⟩
theorem errS {α : Type} {f : α → Int} {l : List α} {r : Int} {i : Nat} (ha : r = errG f (l.drop i)) (hi : i < l.length) : (f l[i] ≠ 0 → r = f l[i]) ∧ (f l[i] = 0 → r = errG f (l.drop (i + 1))) := by
  rw [errG_step hi] at ha
  by_cases h : f l[i] = 0
  · rw [if_neg (by simp [h])] at ha; exact ⟨fun h2 => absurd h h2, fun _ => ha⟩
  · rw [if_pos h] at ha; exact ⟨fun _ => ha, fun h2 => absurd h2 h⟩
def stgsE (rx : By → Int) (l : List Stg) : Int := if 100 < l.length then 4 else errG (stgE rx) l
theorem ref_stgs (H : RefRx rx) (l : List Stg) (hl : okSs l) : PTri Tryz.prog 35 [slV stgC l] (nI (stgsE rx l)) := by
  have hb := hl.1
  simp only [big] at hb
  refine PTri.of_safe Tryz.func35 rfl Tryz.results35 Tryz.ntmps35 rfl ?_
  refine go 99 rfl ?_
  refine Safe.br rfl (fun c => ?_) (fun c => ?_)
  · have hc : 100 < l.length := ltc c
    refine go 99 rfl ?_
    exact ⟨.inr rfl, trivial, .done (nIeq (by simp only [stgsE]; rw [if_pos hc])) rfl⟩
  · have hc : l.length ≤ 100 := gec c
    have hE : stgsE rx l = errG (stgE rx) l := by simp only [stgsE]; rw [if_neg (by omega)]
    refine go 99 rfl ?_
    refine Safe.loop (α := Nat) (fun i => [(0, slV stgC l), (3, nI i)]) (fun i => []) 0 (fun i => l.length - i) (fun i => i ≤ l.length ∧ stgsE rx l = errG (stgE rx) (l.drop i)) 0 (sgI 0) ⟨⟨fit rfl, fit rfl, trivial⟩, ⟨_, .refl _, List.nil_sublist _⟩, rfl⟩ ⟨Nat.zero_le _, hE⟩ ?_
    rintro i ⟨hi, ha⟩
    refine go 99 rfl ?_
    refine Safe.br rfl (fun c1 => ?_) (fun c1 => ?_)
    · have hi : i < l.length := ltc c1
      refine go 99 rfl ?_
      refine Safe.idxF hi rfl rfl rfl ?_
      refine Safe.ldF (ldS hi) rfl rfl rfl ?_
      refine Safe.call (ref_stg H l[i] (hl.2 _ (List.getElem_mem hi))) rfl rfl rfl ?_
      refine go 99 rfl ?_
      refine Safe.br rfl (fun d => ?_) (fun d => ?_)
      · refine go 99 rfl ?_
        exact ⟨.inr rfl, trivial, .done (nIeq ((errS ha hi).1 (by simpa using d)).symm) rfl⟩
      · refine go 99 rfl ?_
        exact ⟨sgI 0, i + 1, ⟨hi, (errS ha hi).2 (by simpa using d)⟩, mlt hi, rfl, rfl, ⟨fit rfl, fit (isucc (by omega)), trivial⟩, ⟨_, .refl _, List.nil_sublist _⟩, rfl⟩
    · have hi2 : i = l.length := Nat.le_antisymm hi (gec c1)
      subst hi2
      rw [List.drop_length] at ha
      refine go 99 rfl ?_
      exact ⟨.inr rfl, trivial, .done (nIeq ha.symm) rfl⟩
theorem alg_stgs (H : AlgRx rx) (l : List Stg) (hl : okSs l) : PTri Tryz.prog 31 [slV stgC l] (nI (stgsE rx l)) := by
  have hb := hl.1
  simp only [big] at hb
  refine PTri.of_safe Tryz.func31 rfl Tryz.results31 Tryz.ntmps31 rfl ?_
  refine go 99 rfl ?_
  refine Safe.br rfl (fun c => ?_) (fun c => ?_)
  · have hc : 100 < l.length := ltc c
    refine go 99 rfl ?_
    exact ⟨.inr rfl, trivial, .done (nIeq (by simp only [stgsE]; rw [if_pos hc])) rfl⟩
  · have hc : l.length ≤ 100 := gec c
    have hE : stgsE rx l = errG (stgE rx) l := by simp only [stgsE]; rw [if_neg (by omega)]
    refine go 99 rfl ?_
    refine Safe.loop (α := Nat) (fun i => [(9, slV stgC l), (10, nI l.length), (11, nI i)]) (fun i => []) 0 (fun i => l.length - i) (fun i => i ≤ l.length ∧ stgsE rx l = errG (stgE rx) (l.drop i)) 0 (sgI 0) ⟨⟨fit rfl, fit rfl, fit rfl, trivial⟩, ⟨_, .refl _, List.nil_sublist _⟩, rfl⟩ ⟨Nat.zero_le _, hE⟩ ?_
    rintro i ⟨hi, ha⟩
    refine go 99 rfl ?_
    refine Safe.br rfl (fun c1 => ?_) (fun c1 => ?_)
    · have hi : i < l.length := ltc c1
      refine go 99 rfl ?_
      refine Safe.idxF hi rfl rfl rfl ?_
      refine Safe.ldF (ldS hi) rfl rfl rfl ?_
      refine go 99 rfl ?_
      refine Safe.call (alg_stg H l[i] (hl.2 _ (List.getElem_mem hi))) rfl rfl rfl ?_
      refine go 99 rfl ?_
      refine Safe.br rfl (fun d => ?_) (fun d => ?_)
      · refine go 99 rfl ?_
        exact ⟨.inr rfl, trivial, .done (nIeq ((errS ha hi).1 (by simpa using d)).symm) rfl⟩
      · refine go 99 rfl ?_
        exact ⟨sgI 0, i + 1, ⟨hi, (errS ha hi).2 (by simpa using d)⟩, mlt hi, rfl, rfl, ⟨fit rfl, fit rfl, fit (isucc (by omega)), trivial⟩, ⟨_, .refl _, List.nil_sublist _⟩, rfl⟩
    · have hi2 : i = l.length := Nat.le_antisymm hi (gec c1)
      subst hi2
      rw [List.drop_length] at ha
      refine go 99 rfl ?_
      exact ⟨.inr rfl, trivial, .done (nIeq ha.symm) rfl⟩
end Go.Proofs.YtmohgegpcfkooaaGreatDoor.Al
end

section
namespace Go.Proofs.YtmohgegpcfkooaaGreatDoor.W
open Go.Fw
variable [Gl]
theorem mixed : Tryz.prog.follows .mixedOrders = true := by kernel_rfl
theorem tagg9 : tagg Tryz.prog 9 = some false := by kernel_rfl
theorem tsz9 : tsz Tryz.prog 9 = some 1 := by kernel_rfl
abbrev By := List UInt8
def scs (l : List By) : List V := l.map .str
def ssl (l : List By) : V := .fslice (scs l) l.length
theorem scs_get {l : List By} {i : Nat} (h : i < l.length) : (scs l)[((i : Nat) : Int).toNat * 1]? = some (.str l[i]) := by simp [scs, h]
def isTB (c : Int) : Bool := (decide (97 ≤ c) && decide (c ≤ 122)) || (decide (65 ≤ c) && decide (c ≤ 90)) || (decide (48 ≤ c) && decide (c ≤ 57)) || c == 95
theorem isTB_tri (c : Int) : PTri Tryz.prog 43 [.int .u8 c] (.bool (isTB c)) := by
  refine Tri.of_wc Tryz.func43 rfl Tryz.results43 Tryz.ntmps43 (by simp) ?_
  refine WC.seq_k fun K1 hK2 => ?_
  refine WC.region ?_
  refine wU (gE rfl ?_)
  refine wOps.done ?_
  refine hK2 _ _ _ ?_
  clear hK2 K1
  refine WC.seq_k fun K3 hK4 => ?_
  refine WC.region ?_
  refine wU (gE rfl ?_)
  refine wU (gE rfl ?_)
  refine wU (gE rfl ?_)
  refine wG rfl rfl rfl rfl (by decide) (fun c5 => ?_) (fun c5 => ?_)
  · skip
    refine gE rfl ?_
    refine wY rfl (gE rfl ?_)
    refine wU (gE rfl ?_)
    refine wU (gE rfl ?_)
    refine wG rfl rfl rfl rfl (by decide) (fun c6 => ?_) (fun c6 => ?_)
    · skip
      refine gE rfl ?_
      refine wY rfl (gE rfl ?_)
      refine wY rfl (gE rfl ?_)
      refine wG rfl rfl rfl rfl (by decide) (fun c7 => ?_) (fun c7 => ?_)
      · skip
        refine gE rfl ?_
        refine wY rfl (gE rfl ?_)
        refine wY rfl (gE rfl ?_)
        refine wU (gE rfl ?_)
        refine wU (gE rfl ?_)
        refine wG rfl rfl rfl rfl (by decide) (fun c8 => ?_) (fun c8 => ?_)
        · skip
          refine gE rfl ?_
          refine wY rfl (gE rfl ?_)
          refine wY rfl (gE rfl ?_)
          refine wG rfl rfl rfl rfl (by decide) (fun c9 => ?_) (fun c9 => ?_)
          · skip
            refine gE rfl ?_
            refine wY rfl (gE rfl ?_)
            refine wY rfl (gE rfl ?_)
            refine wU (gE rfl ?_)
            refine wU (gE rfl ?_)
            refine wG rfl rfl rfl rfl (by decide) (fun c10 => ?_) (fun c10 => ?_)
            · skip
              refine gE rfl ?_
              refine wY rfl (gE rfl ?_)
              refine wU (gE rfl ?_)
              refine wU (gE rfl ?_)
              refine wOps.done ?_
              refine hK4 _ _ _ ?_
              clear hK4 K3
              refine WC.ret ?_
              exact ⟨_, rfl, by simp_all [isTB] <;> omega, rfl⟩
            · skip
              refine wN rfl ?_
              refine wU (gE rfl ?_)
              refine wU (gE rfl ?_)
              refine wOps.done ?_
              refine hK4 _ _ _ ?_
              clear hK4 K3
              refine WC.ret ?_
              exact ⟨_, rfl, by simp_all [isTB] <;> omega, rfl⟩
          · skip
            refine wN rfl ?_
            refine wY rfl (gE rfl ?_)
            refine wU (gE rfl ?_)
            refine wU (gE rfl ?_)
            refine wY rfl (gE rfl ?_)
            refine wY rfl (gE rfl ?_)
            refine wU (gE rfl ?_)
            refine wU (gE rfl ?_)
            refine wOps.done ?_
            refine hK4 _ _ _ ?_
            clear hK4 K3
            refine WC.ret ?_
            exact ⟨_, rfl, by simp_all [isTB] <;> omega, rfl⟩
        · skip
          refine wN rfl ?_
          refine wN rfl ?_
          refine wZ rfl ?_
          refine wZ rfl ?_
          refine wN rfl ?_
          refine wU (gE rfl ?_)
          refine wU (gE rfl ?_)
          refine wN rfl ?_
          refine wN rfl ?_
          refine wU (gE rfl ?_)
          refine wU (gE rfl ?_)
          refine wOps.done ?_
          refine hK4 _ _ _ ?_
          clear hK4 K3
          refine WC.ret ?_
          exact ⟨_, rfl, by simp_all [isTB] <;> omega, rfl⟩
      · skip
        refine wN rfl ?_
        refine wY rfl (gE rfl ?_)
        refine wU (gE rfl ?_)
        refine wU (gE rfl ?_)
        refine wY rfl (gE rfl ?_)
        refine wY rfl (gE rfl ?_)
        refine wY rfl (gE rfl ?_)
        refine wG rfl rfl rfl rfl (by decide) (fun c11 => ?_) (fun c11 => ?_)
        · skip
          refine gE rfl ?_
          refine wY rfl (gE rfl ?_)
          refine wY rfl (gE rfl ?_)
          refine wU (gE rfl ?_)
          refine wU (gE rfl ?_)
          refine wG rfl rfl rfl rfl (by decide) (fun c12 => ?_) (fun c12 => ?_)
          · skip
            refine gE rfl ?_
            refine wY rfl (gE rfl ?_)
            refine wU (gE rfl ?_)
            refine wU (gE rfl ?_)
            refine wOps.done ?_
            refine hK4 _ _ _ ?_
            clear hK4 K3
            refine WC.ret ?_
            exact ⟨_, rfl, by simp_all [isTB] <;> omega, rfl⟩
          · skip
            refine wN rfl ?_
            refine wU (gE rfl ?_)
            refine wU (gE rfl ?_)
            refine wOps.done ?_
            refine hK4 _ _ _ ?_
            clear hK4 K3
            refine WC.ret ?_
            exact ⟨_, rfl, by simp_all [isTB] <;> omega, rfl⟩
        · skip
          refine wN rfl ?_
          refine wY rfl (gE rfl ?_)
          refine wU (gE rfl ?_)
          refine wU (gE rfl ?_)
          refine wY rfl (gE rfl ?_)
          refine wY rfl (gE rfl ?_)
          refine wU (gE rfl ?_)
          refine wU (gE rfl ?_)
          refine wOps.done ?_
          refine hK4 _ _ _ ?_
          clear hK4 K3
          refine WC.ret ?_
          exact ⟨_, rfl, by simp_all [isTB] <;> omega, rfl⟩
    · skip
      refine wN rfl ?_
      refine wN rfl ?_
      refine wZ rfl ?_
      refine wZ rfl ?_
      refine wN rfl ?_
      refine wU (gE rfl ?_)
      refine wU (gE rfl ?_)
      refine wN rfl ?_
      refine wN rfl ?_
      refine wN rfl ?_
      refine wZ rfl ?_
      refine wZ rfl ?_
      refine wN rfl ?_
      refine wU (gE rfl ?_)
      refine wU (gE rfl ?_)
      refine wN rfl ?_
      refine wN rfl ?_
      refine wU (gE rfl ?_)
      refine wU (gE rfl ?_)
      refine wOps.done ?_
      refine hK4 _ _ _ ?_
      clear hK4 K3
      refine WC.ret ?_
      exact ⟨_, rfl, by simp_all [isTB] <;> omega, rfl⟩
  · skip
    refine wN rfl ?_
    refine wU (gE rfl ?_)
    refine wU (gE rfl ?_)
    refine wY rfl (gE rfl ?_)
    refine wY rfl (gE rfl ?_)
    refine wY rfl (gE rfl ?_)
    refine wG rfl rfl rfl rfl (by decide) (fun c13 => ?_) (fun c13 => ?_)
    · skip
      refine gE rfl ?_
      refine wY rfl (gE rfl ?_)
      refine wY rfl (gE rfl ?_)
      refine wU (gE rfl ?_)
      refine wU (gE rfl ?_)
      refine wG rfl rfl rfl rfl (by decide) (fun c14 => ?_) (fun c14 => ?_)
      · skip
        refine gE rfl ?_
        refine wY rfl (gE rfl ?_)
        refine wY rfl (gE rfl ?_)
        refine wG rfl rfl rfl rfl (by decide) (fun c15 => ?_) (fun c15 => ?_)
        · skip
          refine gE rfl ?_
          refine wY rfl (gE rfl ?_)
          refine wY rfl (gE rfl ?_)
          refine wU (gE rfl ?_)
          refine wU (gE rfl ?_)
          refine wG rfl rfl rfl rfl (by decide) (fun c16 => ?_) (fun c16 => ?_)
          · skip
            refine gE rfl ?_
            refine wY rfl (gE rfl ?_)
            refine wU (gE rfl ?_)
            refine wU (gE rfl ?_)
            refine wOps.done ?_
            refine hK4 _ _ _ ?_
            clear hK4 K3
            refine WC.ret ?_
            exact ⟨_, rfl, by simp_all [isTB] <;> omega, rfl⟩
          · skip
            refine wN rfl ?_
            refine wU (gE rfl ?_)
            refine wU (gE rfl ?_)
            refine wOps.done ?_
            refine hK4 _ _ _ ?_
            clear hK4 K3
            refine WC.ret ?_
            exact ⟨_, rfl, by simp_all [isTB] <;> omega, rfl⟩
        · skip
          refine wN rfl ?_
          refine wY rfl (gE rfl ?_)
          refine wU (gE rfl ?_)
          refine wU (gE rfl ?_)
          refine wY rfl (gE rfl ?_)
          refine wY rfl (gE rfl ?_)
          refine wU (gE rfl ?_)
          refine wU (gE rfl ?_)
          refine wOps.done ?_
          refine hK4 _ _ _ ?_
          clear hK4 K3
          refine WC.ret ?_
          exact ⟨_, rfl, by simp_all [isTB] <;> omega, rfl⟩
      · skip
        refine wN rfl ?_
        refine wN rfl ?_
        refine wZ rfl ?_
        refine wZ rfl ?_
        refine wN rfl ?_
        refine wU (gE rfl ?_)
        refine wU (gE rfl ?_)
        refine wN rfl ?_
        refine wN rfl ?_
        refine wU (gE rfl ?_)
        refine wU (gE rfl ?_)
        refine wOps.done ?_
        refine hK4 _ _ _ ?_
        clear hK4 K3
        refine WC.ret ?_
        exact ⟨_, rfl, by simp_all [isTB] <;> omega, rfl⟩
    · skip
      refine wN rfl ?_
      refine wY rfl (gE rfl ?_)
      refine wU (gE rfl ?_)
      refine wU (gE rfl ?_)
      refine wY rfl (gE rfl ?_)
      refine wY rfl (gE rfl ?_)
      refine wY rfl (gE rfl ?_)
      refine wG rfl rfl rfl rfl (by decide) (fun c17 => ?_) (fun c17 => ?_)
      · skip
        refine gE rfl ?_
        refine wY rfl (gE rfl ?_)
        refine wY rfl (gE rfl ?_)
        refine wU (gE rfl ?_)
        refine wU (gE rfl ?_)
        refine wG rfl rfl rfl rfl (by decide) (fun c18 => ?_) (fun c18 => ?_)
        · skip
          refine gE rfl ?_
          refine wY rfl (gE rfl ?_)
          refine wU (gE rfl ?_)
          refine wU (gE rfl ?_)
          refine wOps.done ?_
          refine hK4 _ _ _ ?_
          clear hK4 K3
          refine WC.ret ?_
          exact ⟨_, rfl, by simp_all [isTB] <;> omega, rfl⟩
        · skip
          refine wN rfl ?_
          refine wU (gE rfl ?_)
          refine wU (gE rfl ?_)
          refine wOps.done ?_
          refine hK4 _ _ _ ?_
          clear hK4 K3
          refine WC.ret ?_
          exact ⟨_, rfl, by simp_all [isTB] <;> omega, rfl⟩
      · skip
        refine wN rfl ?_
        refine wY rfl (gE rfl ?_)
        refine wU (gE rfl ?_)
        refine wU (gE rfl ?_)
        refine wY rfl (gE rfl ?_)
        refine wY rfl (gE rfl ?_)
        refine wU (gE rfl ?_)
        refine wU (gE rfl ?_)
        refine wOps.done ?_
        refine hK4 _ _ _ ?_
        clear hK4 K3
        refine WC.ret ?_
        exact ⟨_, rfl, by simp_all [isTB] <;> omega, rfl⟩
end Go.Proofs.YtmohgegpcfkooaaGreatDoor.W
end

section
namespace Go.Proofs.YtmohgegpcfkooaaGreatDoor.W
open Go.Fw
theorem le_tr {a b c : By} (h : a ≤ b) (h' : b ≤ c) : a ≤ c := List.le_trans h h'
theorem le_anti {a b : By} (h : a ≤ b) (h' : b ≤ a) : a = b := List.le_antisymm h h'
theorem lt_le {a b : By} (h : a < b) : a ≤ b := List.le_of_lt h
theorem lt_ne {a b : By} (h : a ≤ b) (hn : a ≠ b) : a < b := Classical.byContradiction fun h1 => hn (le_anti h (by simpa using h1))
theorem lt_irr {a : By} (h : a < a) : False := List.lt_irrefl a h
theorem lt_tr {a b c : By} (h : a < b) (h' : b < c) : a < c := List.lt_trans h h'
theorem bl_iff (x y : By) : Op.bytesLess x y = true ↔ x < y := by rw [Go.Proofs.bytesLess_eq]; simp
end Go.Proofs.YtmohgegpcfkooaaGreatDoor.W
end

section
namespace Go.Proofs.YtmohgegpcfkooaaGreatDoor.W
open Go.Fw
variable [Gl]
theorem tisstr9 : tisstr Tryz.prog 9 = true := by kernel_rfl
theorem tslice25 : tslice Tryz.prog 25 = some 9 := by kernel_rfl
end Go.Proofs.YtmohgegpcfkooaaGreatDoor.W
end

section
namespace Go.Proofs.YtmohgegpcfkooaaGreatDoor.W
open Go.Fw
variable [Gl]
theorem tagg5 : tagg Tryz.prog 5 = some false := by kernel_rfl
theorem tagg71 : tagg Tryz.prog 71 = some false := by kernel_rfl
theorem tint5 : tint Tryz.prog 5 = some .u8 := by kernel_rfl
theorem tisstr102 : tisstr Tryz.prog 102 = false := by kernel_rfl
theorem tslice102 : tslice Tryz.prog 102 = some 5 := by kernel_rfl
theorem tsz5 : tsz Tryz.prog 5 = some 1 := by kernel_rfl
def wordsG (p : UInt8 → Bool) (acc : List UInt8) : List UInt8 → List (List UInt8)
  | [] => if acc = [] then [] else [acc]
  | c :: r => if p c = true then wordsG p (acc ++ [c]) r else (if acc = [] then [] else [acc]) ++ wordsG p [] r
theorem wordsG_step {p : UInt8 → Bool} {s : List UInt8} {i j : Nat} (hij : i ≤ j) (hj : j < s.length) (hp : p s[j] = true) : wordsG p ((s.drop i).take (j - i)) (s.drop j) = wordsG p ((s.drop i).take (j + 1 - i)) (s.drop (j + 1)) := by
  rw [List.drop_eq_getElem_cons hj]
  simp only [wordsG, hp, if_true]
  congr 1
  have : j + 1 - i = (j - i) + 1 := by omega
  rw [this, List.take_succ_eq_append_getElem (by simp; omega)]
  congr 2
  simp
  congr 1
  omega
theorem wordsG_stop {p : UInt8 → Bool} {s : List UInt8} {i j : Nat} (hij : i ≤ j) (hj : j ≤ s.length) (hp : ∀ h : j < s.length, p s[j] = false) : wordsG p ((s.drop i).take (j - i)) (s.drop j) = (if j = i then [] else [(s.drop i).take (j - i)]) ++ wordsG p [] (s.drop (j + 1)) := by
  have e : ((s.drop i).take (j - i) = []) ↔ j = i := by
    rw [← List.length_eq_zero_iff]; simp; omega
  by_cases h : j < s.length
  · rw [List.drop_eq_getElem_cons h]
    simp only [wordsG, hp h, Bool.false_eq_true, if_false, e]
  · have : j = s.length := by omega
    have e1 : s.drop j = [] := List.drop_of_length_le (by omega)
    have e2 : s.drop (j + 1) = [] := List.drop_of_length_le (by omega)
    rw [e1, e2]
    simp only [wordsG, e, if_true, List.append_nil]
theorem YieldS.b {P : Program} {l : Nat} {us : List V} {h : Hp} {A B : Hp → Prop} {K : V → Hp → Prop} (hy : YieldS P l us h fun v h' => (v = .bool true ∧ A h') ∨ (v = .bool false ∧ B h')) (hk : ∀ b h', (b = true → A h') → (b = false → B h') → K (.bool b) h') : YieldS P l us h K :=
  hy.mono fun v h' hh => by
    rcases hh with ⟨rfl, ha⟩ | ⟨rfl, hb⟩
    · exact hk true h' (fun _ => ha) (fun e => by simp at e)
    · exact hk false h' (fun e => by simp at e) (fun _ => hb)
theorem words1_iter (p : FuncId) (pf : UInt8 → Bool) (hgo : isGo Tryz.prog p = true) (hp : ∀ c : UInt8, PTri Tryz.prog p [.int .u8 c.toNat] (.bool (pf c))) (s : List UInt8) (hsz : s.length ≤ 9223372036854775806) :
    IterC Tryz.prog 70 [.fptr [.str s] 0, .fptr [.clo p []] 0] ((wordsG pf [] s).map fun w => [.str w]) := by
  intro l J S hy h0 hJ0
  generalize hxs : ((wordsG pf [] s).map fun w => [V.str w]) = xs at hy ⊢
  refine Tri.of_wc Tryz.func70 rfl Tryz.results70 Tryz.ntmps70 (by simp) ?_
  refine WC.seq_k fun K1 hK2 => ?_
  refine WC.region ?_
  refine wU (gE rfl ?_)
  refine wOps.done ?_
  refine hK2 _ _ _ ?_
  clear hK2 K1
  refine WC.block ?_
  refine WC.loopI (α := Nat × Nat × Hp) (fun a => [(0, .yield l), (1, .fptr [.str s] 0), (2, .fptr [.clo p []] 0), (4, .int .i64 a.1)]) (fun a => a.2.2) (fun a => s.length + 1 - a.1) (fun a => a.1 ≤ s.length + 1 ∧ a.2.1 ≤ xs.length ∧ ((wordsG pf [] (s.drop a.1)).map fun w => [V.str w]) = xs.drop a.2.1 ∧ J a.2.1 a.2.2) (0, 0, h0) ?_ ?_ ?_ ?_
  · exact sub_cons rfl (sub_cons rfl (sub_cons rfl (sub_cons rfl (sub_nil _))))
  · exact Ent.refl _ _
  · exact ⟨by simp, by simp, by simpa using hxs, hJ0⟩
  rintro ⟨i, k, h⟩ ⟨hi, hkx, hw, hJ⟩
  simp only at hi hkx hw hJ ⊢
  refine WC.seq_k fun K3 hK4 => ?_
  refine WC.seq_k fun K5 hK6 => ?_
  refine WC.region ?_
  refine wU (gE rfl ?_)
  refine wU (gLoadF tagg9 rfl rfl ?_)
  refine wU (gLen rfl rfl tisstr9 ?_)
  refine wU (gE rfl ?_)
  refine wOps.done ?_
  refine hK6 _ _ _ ?_
  clear hK6 K5
  refine WC.cond rfl (fun c7 => ?_) (fun c7 => ?_)
  · skip
    refine WC.skip ?_
    refine hK4 _ _ _ ?_
    clear hK4 K3
    refine WC.block ?_
    refine WC.seq_k fun K8 hK9 => ?_
    refine WC.region ?_
    refine wU (gE rfl ?_)
    refine wU (gE rfl ?_)
    refine wOps.done ?_
    refine hK9 _ _ _ ?_
    clear hK9 K8
    refine WC.seq_k fun K10 hK11 => ?_
    refine WC.block ?_
    refine WC.loopI (α := Nat) (fun j => [(0, .yield l), (1, .fptr [.str s] 0), (2, .fptr [.clo p []] 0), (4, .int .i64 i), (5, .int .i64 j)]) (fun _ => h) (fun j => s.length - j) (fun j => i ≤ j ∧ j ≤ s.length ∧ wordsG pf [] (s.drop i) = wordsG pf ((s.drop i).take (j - i)) (s.drop j)) i ?_ ?_ ?_ ?_
    · exact sub_cons rfl (sub_cons rfl (sub_cons rfl (sub_cons rfl (sub_cons rfl (sub_nil _)))))
    · exact Ent.refl _ _
    · exact ⟨Nat.le_refl _, by simp_all; omega, by simp⟩
    rintro j ⟨hij, hjs, hwj⟩
    refine WC.seq_k fun K12 hK13 => ?_
    refine WC.seq_k fun K14 hK15 => ?_
    refine WC.region_draw mixed ?_
    refine wA.val 0 rfl rfl rfl (fun _ _ hK => gE rfl hK) (by kernel_rfl) ?_
    refine wA.val 1 rfl rfl rfl (fun _ _ hK => gLoadF tagg9 rfl rfl hK) (by kernel_rfl) ?_
    refine wA.val 2 rfl rfl rfl (fun _ _ hK => gLen rfl rfl tisstr9 hK) (by kernel_rfl) ?_
    refine wA.val 3 rfl rfl rfl (fun _ _ hK => gE rfl hK) (by kernel_rfl) ?_
    refine wA.val 4 rfl rfl rfl (fun _ _ hK => gE rfl hK) (by kernel_rfl) ?_
    refine wA.split (e := 15) true rfl (fun c16 => ?_) (fun c16 => ?_)
    · skip
      refine wA.val 5 rfl rfl rfl (fun _ _ hK => gLoadF tagg71 rfl rfl hK) (by kernel_rfl) ?_
      refine wA.val 6 rfl rfl rfl (fun _ _ hK => gLoadF tagg9 rfl rfl hK) (by kernel_rfl) ?_
      refine wA.val 7 rfl rfl rfl (fun _ _ hK => gE rfl hK) (by kernel_rfl) ?_
      have hj : j < s.length := by simpa using c16
      refine wA.val 8 rfl rfl rfl (fun _ _ hK => gIdxStr tisstr9 rfl rfl (by omega) (str_at hj) hK) (by kernel_rfl) ?_
      refine wA.val 9 rfl rfl rfl (fun _ _ hK => by refine gPureV rfl rfl hgo (hp (s[j]'hj)) ?_; exact hK) (by kernel_rfl) ?_
      refine wA.val 10 rfl rfl rfl (fun _ _ hK => gE rfl hK) (by kernel_rfl) ?_
      refine wA.done (by kernel_rfl) ?_
      refine hK15 _ _ _ ?_
      clear hK15 K14
      refine WC.cond rfl (fun c17 => ?_) (fun c17 => ?_)
      · skip
        refine WC.skip ?_
        refine hK13 _ _ _ ?_
        clear hK13 K12
        refine WC.block ?_
        refine WC.region ?_
        refine wU (gE rfl ?_)
        refine wU (gE rfl ?_)
        refine wU (gE rfl ?_)
        refine wOps.done ?_
        exact ⟨j + 1, rfl, by omega, ⟨by omega, by omega, by rw [hwj, wordsG_step hij hj (by simpa using c17)]⟩, Ent.sub (sub_cons rfl (sub_cons rfl (sub_cons rfl (sub_cons rfl (sub_cons (int_fit (by omega) (by omega) (by omega)) (sub_nil _))))))⟩
      · skip
        refine WC.exit ?_
        refine hK11 _ _ _ ?_
        clear hK13 K12 hK11 K10
        refine WC.seq_k fun K18 hK19 => ?_
        refine WC.seq_k fun K20 hK21 => ?_
        refine WC.region ?_
        refine wU (gE rfl ?_)
        refine wU (gE rfl ?_)
        refine wU (gE rfl ?_)
        refine wU (gE rfl ?_)
        refine wG rfl rfl rfl rfl (by decide) (fun c22 => ?_) (fun c22 => ?_)
        · skip
          refine gE rfl ?_
          refine wY rfl (gLoadF tagg9 rfl rfl ?_)
          refine wY rfl (gE rfl ?_)
          refine wY rfl (gE rfl ?_)
          refine wY rfl (gSliceStr tisstr9 rfl rfl rfl (by simp; omega) (by simp; omega) ?_)
          have hstop := wordsG_stop (p := pf) hij hjs (fun hx => by first | (exfalso; have := of_decide_eq_false c16; omega) | simpa using c17)
          have hst2 : (if j = i then [] else [[V.str ((s.drop i).take (j - i))]]) ++ (wordsG pf [] (s.drop (j + 1))).map (fun w => [V.str w]) = xs.drop k := by rw [← hw, hwj, hstop]; split <;> simp
          have hji : j ≠ i := by have := of_decide_eq_true c22; omega
          rw [if_neg hji] at hst2
          have hk : k < xs.length := by have := congrArg List.length hst2; simp at this; omega
          have hxk : xs[k] = [.str ((s.drop i).take (j - i))] := by have := congrArg (·[0]?) hst2; simpa [hk] using this.symm
          have hyk := hy k hk h hJ
          rw [hxk] at hyk
          refine wY rfl (gYield rfl rfl (YieldS.b hyk fun b h1 hb1 hb2 => ?_))
          refine wY rfl (gE rfl ?_)
          refine wU (gE rfl ?_)
          refine wOps.done ?_
          refine hK21 _ _ _ ?_
          clear hK21 K20
          refine WC.cond rfl (fun c23 => ?_) (fun c23 => ?_)
          · skip
            refine WC.ret ?_
            exact ⟨_, rfl, .inr (hb2 (by simpa using c23))⟩
          · skip
            refine WC.skip ?_
            refine hK19 _ _ _ ?_
            clear hK19 K18
            refine WC.region ?_
            refine wU (gE rfl ?_)
            refine wU (gE rfl ?_)
            refine wU (gE rfl ?_)
            refine wOps.done ?_
            exact ⟨(j + 1, k + 1, h1), rfl, by simp only; omega, ⟨by simp only; omega, by simp only; omega, by have := congrArg List.tail hst2; simpa using this, hb1 (by simpa using c23)⟩, Ent.sub (sub_cons rfl (sub_cons rfl (sub_cons rfl (sub_cons (int_fit (by omega) (by omega) (by omega)) (sub_nil _)))))⟩
        · skip
          refine wN rfl ?_
          refine wN rfl ?_
          refine wN rfl ?_
          refine wN rfl ?_
          refine wN rfl ?_
          refine wN rfl ?_
          refine wU (gE rfl ?_)
          refine wOps.done ?_
          refine hK21 _ _ _ ?_
          clear hK21 K20
          first | refine WC.cond (b := false) rfl (fun hh => by simp at hh) (fun _ => ?_) | refine WC.cond rfl (fun hh => by simp_all) (fun _ => ?_)
          refine WC.skip ?_
          refine hK19 _ _ _ ?_
          clear hK19 K18
          refine WC.region ?_
          refine wU (gE rfl ?_)
          refine wU (gE rfl ?_)
          refine wU (gE rfl ?_)
          refine wOps.done ?_
          have hstop := wordsG_stop (p := pf) hij hjs (fun hx => by first | (exfalso; have := of_decide_eq_false c16; omega) | simpa using c17)
          have hst2 : (if j = i then [] else [[V.str ((s.drop i).take (j - i))]]) ++ (wordsG pf [] (s.drop (j + 1))).map (fun w => [V.str w]) = xs.drop k := by rw [← hw, hwj, hstop]; split <;> simp
          have hji : j = i := by have := of_decide_eq_false c22; omega
          rw [if_pos hji] at hst2
          exact ⟨(j + 1, k, h), rfl, by simp only; omega, ⟨by simp only; omega, hkx, by simpa using hst2, hJ⟩, Ent.sub (sub_cons rfl (sub_cons rfl (sub_cons rfl (sub_cons (int_fit (by omega) (by omega) (by omega)) (sub_nil _)))))⟩
    · skip
      refine wA.skip 5 rfl rfl rfl (by kernel_rfl) ?_
      refine wA.skip 6 rfl rfl rfl (by kernel_rfl) ?_
      refine wA.skip 7 rfl rfl rfl (by kernel_rfl) ?_
      refine wA.skip 8 rfl rfl rfl (by kernel_rfl) ?_
      refine wA.skip 9 rfl rfl rfl (by kernel_rfl) ?_
      refine wA.val 10 rfl rfl rfl (fun _ _ hK => gE rfl hK) (by kernel_rfl) ?_
      refine wA.done (by kernel_rfl) ?_
      refine hK15 _ _ _ ?_
      clear hK15 K14
      first | refine WC.cond (b := false) rfl (fun hh => by simp at hh) (fun _ => ?_) | refine WC.cond rfl (fun hh => by simp_all) (fun _ => ?_)
      refine WC.exit ?_
      refine hK11 _ _ _ ?_
      clear hK13 K12 hK11 K10
      refine WC.seq_k fun K24 hK25 => ?_
      refine WC.seq_k fun K26 hK27 => ?_
      refine WC.region ?_
      refine wU (gE rfl ?_)
      refine wU (gE rfl ?_)
      refine wU (gE rfl ?_)
      refine wU (gE rfl ?_)
      refine wG rfl rfl rfl rfl (by decide) (fun c28 => ?_) (fun c28 => ?_)
      · skip
        refine gE rfl ?_
        refine wY rfl (gLoadF tagg9 rfl rfl ?_)
        refine wY rfl (gE rfl ?_)
        refine wY rfl (gE rfl ?_)
        refine wY rfl (gSliceStr tisstr9 rfl rfl rfl (by simp; omega) (by simp; omega) ?_)
        have hstop := wordsG_stop (p := pf) hij hjs (fun hx => by first | (exfalso; have := of_decide_eq_false c16; omega) | simpa using c16)
        have hst2 : (if j = i then [] else [[V.str ((s.drop i).take (j - i))]]) ++ (wordsG pf [] (s.drop (j + 1))).map (fun w => [V.str w]) = xs.drop k := by rw [← hw, hwj, hstop]; split <;> simp
        have hji : j ≠ i := by have := of_decide_eq_true c28; omega
        rw [if_neg hji] at hst2
        have hk : k < xs.length := by have := congrArg List.length hst2; simp at this; omega
        have hxk : xs[k] = [.str ((s.drop i).take (j - i))] := by have := congrArg (·[0]?) hst2; simpa [hk] using this.symm
        have hyk := hy k hk h hJ
        rw [hxk] at hyk
        refine wY rfl (gYield rfl rfl (YieldS.b hyk fun b h1 hb1 hb2 => ?_))
        refine wY rfl (gE rfl ?_)
        refine wU (gE rfl ?_)
        refine wOps.done ?_
        refine hK27 _ _ _ ?_
        clear hK27 K26
        refine WC.cond rfl (fun c29 => ?_) (fun c29 => ?_)
        · skip
          refine WC.ret ?_
          exact ⟨_, rfl, .inr (hb2 (by simpa using c29))⟩
        · skip
          refine WC.skip ?_
          refine hK25 _ _ _ ?_
          clear hK25 K24
          refine WC.region ?_
          refine wU (gE rfl ?_)
          refine wU (gE rfl ?_)
          refine wU (gE rfl ?_)
          refine wOps.done ?_
          exact ⟨(j + 1, k + 1, h1), rfl, by simp only; omega, ⟨by simp only; omega, by simp only; omega, by have := congrArg List.tail hst2; simpa using this, hb1 (by simpa using c29)⟩, Ent.sub (sub_cons rfl (sub_cons rfl (sub_cons rfl (sub_cons (int_fit (by omega) (by omega) (by omega)) (sub_nil _)))))⟩
      · skip
        refine wN rfl ?_
        refine wN rfl ?_
        refine wN rfl ?_
        refine wN rfl ?_
        refine wN rfl ?_
        refine wN rfl ?_
        refine wU (gE rfl ?_)
        refine wOps.done ?_
        refine hK27 _ _ _ ?_
        clear hK27 K26
        first | refine WC.cond (b := false) rfl (fun hh => by simp at hh) (fun _ => ?_) | refine WC.cond rfl (fun hh => by simp_all) (fun _ => ?_)
        refine WC.skip ?_
        refine hK25 _ _ _ ?_
        clear hK25 K24
        refine WC.region ?_
        refine wU (gE rfl ?_)
        refine wU (gE rfl ?_)
        refine wU (gE rfl ?_)
        refine wOps.done ?_
        have hstop := wordsG_stop (p := pf) hij hjs (fun hx => by first | (exfalso; have := of_decide_eq_false c16; omega) | simpa using c16)
        have hst2 : (if j = i then [] else [[V.str ((s.drop i).take (j - i))]]) ++ (wordsG pf [] (s.drop (j + 1))).map (fun w => [V.str w]) = xs.drop k := by rw [← hw, hwj, hstop]; split <;> simp
        have hji : j = i := by have := of_decide_eq_false c28; omega
        rw [if_pos hji] at hst2
        exact ⟨(j + 1, k, h), rfl, by simp only; omega, ⟨by simp only; omega, hkx, by simpa using hst2, hJ⟩, Ent.sub (sub_cons rfl (sub_cons rfl (sub_cons rfl (sub_cons (int_fit (by omega) (by omega) (by omega)) (sub_nil _)))))⟩
  · skip
    refine WC.exit ?_
    have hk : k = xs.length := by rw [List.drop_of_length_le (by have := of_decide_eq_false c7; omega)] at hw; have := congrArg List.length hw; simp [wordsG] at this; omega
    exact ⟨_, rfl, .inl (hk ▸ hJ)⟩
theorem words_tri (s : By) (p : FuncId) : PTri Tryz.prog 42 [.str s, .clo p []] (.clo 70 [.fptr [.str s] 0, .fptr [.clo p []] 0]) := by
  have ht : Tri Tryz.prog 42 [.str s, .clo p []] [] fun v h' => ∃ b1 b2, v = .clo 70 [.ptr b1 0, .ptr b2 0] ∧ h' = [(b2, .cells 71 [.clo p []] 1), (b1, .cells 9 [.str s] 1)] ∧ ¬ b2 = b1 := by
    refine Tri.of_wc Tryz.func42 rfl Tryz.results42 Tryz.ntmps42 (by simp) ?_
    refine WC.seq_k fun K1 hK2 => ?_
    refine WC.region ?_
    refine wU (gBox rfl fun b3 hb3 => ?_)
    refine wU (gBox rfl fun b4 hb4 => ?_)
    simp only [Hp.ns_cons, Hp.ns_nil, List.mem_cons, List.not_mem_nil, or_false, not_or] at hb4
    refine wU (gE rfl ?_)
    refine wOps.done ?_
    refine hK2 _ _ _ ?_
    clear hK2 K1
    refine WC.seq_k fun K5 hK6 => ?_
    refine WC.region ?_
    refine wU (gE rfl ?_)
    refine wU (gE rfl ?_)
    refine wOps.done ?_
    refine hK6 _ _ _ ?_
    clear hK6 K5
    refine WC.ret ?_
    exact ⟨_, rfl, _, _, rfl, rfl, by simp_all⟩
  refine Tri.vent ht ?_
  rintro v h' ⟨b1, b2, rfl, rfl, hne⟩
  refine ⟨_, _, .freeze b2 (by simp [hget]; exact ⟨rfl, rfl, rfl⟩) (.freeze b1 (by simp [frzH, hdel, hget, frzO, frzL, frzV, hne]; exact ⟨rfl, rfl, rfl⟩) (.refl _ _)), ?_, ?_⟩
  · simp [frzV, frzL, hne, Ne.symm hne]
  · simp [frzH, hdel]
def lowB (c : UInt8) : UInt8 := if 65 ≤ c.toNat ∧ c.toNat ≤ 90 then c + 32 else c
theorem lowB_u8 {c : UInt8} (h1 : 65 ≤ (c.toNat : Int)) (h2 : (c.toNat : Int) ≤ 90) : (IntKind.u8.wrap (IntKind.u8.wrap ((c.toNat : Int) - 65) + 97)) = ((lowB c).toNat : Int) ∧ (IntKind.u8.wrap (IntKind.u8.wrap ((c.toNat : Int) + 97) - 65)) = ((lowB c).toNat : Int) := by
  have e : lowB c = c + 32 := by unfold lowB; rw [if_pos (by omega)]
  have e2 : (c + 32).toNat = c.toNat + 32 := by rw [UInt8.toNat_add]; simp; omega
  rw [e, e2]
  simp only [IntKind.wrap, IntKind.bits, IntKind.signed]
  constructor <;> simp <;> omega
theorem lowB_no {c : UInt8} (h : ¬ (65 ≤ (c.toNat : Int) ∧ (c.toNat : Int) ≤ 90)) : lowB c = c := by unfold lowB; rw [if_neg (by omega)]
theorem low_tri (s : By) (hs : s.length ≤ 4294967295) : PTri Tryz.prog 44 [.str s] (.str (s.map lowB)) := by
  refine PTri.any (Tri.of_wc Tryz.func44 rfl Tryz.results44 Tryz.ntmps44 (by simp) ?_)
  refine WC.seq_k fun K1 hK2 => ?_
  refine WC.region ?_
  refine wU (gE rfl ?_)
  refine wOps.done ?_
  refine hK2 _ _ _ ?_
  clear hK2 K1
  refine WC.seq_k fun K3 hK4 => ?_
  refine WC.region ?_
  refine wU (gE rfl ?_)
  refine wU (gToBytes tisstr9 tisstr102 tslice102 tint5 rfl fun q N hq hN => ?_)
  refine wU (gE rfl ?_)
  refine wOps.done ?_
  refine hK4 _ _ _ ?_
  clear hK4 K3
  refine WC.seq_k fun K5 hK6 => ?_
  refine WC.seq_k fun K7 hK8 => ?_
  refine WC.region ?_
  refine wU (gE rfl ?_)
  refine wU (gLen rfl rfl (by rw [lenFits, tslice102]; rfl) ?_)
  refine wU (gE rfl ?_)
  refine wOps.done ?_
  refine hK8 _ _ _ ?_
  clear hK8 K7
  refine WC.block ?_
  refine WC.loopI (α := Nat) (fun i => [(0, .str s), (3, .slice q 0 s.length N), (8, .slice q 0 s.length N), (9, .int .i64 s.length), (10, .int .i64 i)]) (fun i => [(q, .cells 5 (byteCells ((s.take i).map lowB ++ s.drop i)) N)]) (fun i => s.length - i) (fun i => i ≤ s.length) 0 ?_ ?_ ?_ ?_
  · exact sub_cons rfl (sub_cons rfl (sub_cons rfl (sub_cons rfl (sub_cons rfl (sub_nil _)))))
  · exact Ent.refl _ _
  · exact Nat.zero_le _
  intro i hil
  refine WC.seq_k fun K9 hK10 => ?_
  refine WC.region ?_
  refine wU (gE rfl ?_)
  refine wOps.done ?_
  refine hK10 _ _ _ ?_
  clear hK10 K9
  refine WC.seq_k fun K11 hK12 => ?_
  refine WC.cond rfl (fun c13 => ?_) (fun c13 => ?_)
  · skip
    refine WC.skip ?_
    refine hK12 _ _ _ ?_
    clear hK12 K11
    refine WC.seq_k fun K14 hK15 => ?_
    refine WC.block ?_
    refine WC.seq_k fun K16 hK17 => ?_
    refine WC.region ?_
    refine wU (gE rfl ?_)
    have hi : i < s.length := by simpa using c13
    refine wU (gIdxS tslice102 tsz5 rfl rfl (by omega) (by omega) ?_)
    refine wU (gLoad tagg5 rfl (by simp only [hget, ↓reduceIte] <;> rfl) (mapUp_get hi) ?_)
    refine wU (gE rfl ?_)
    refine wU (gE rfl ?_)
    refine wOps.done ?_
    refine hK17 _ _ _ ?_
    clear hK17 K16
    refine WC.seq_k fun K18 hK19 => ?_
    refine WC.region ?_
    refine wU (gE rfl ?_)
    refine wU (gE rfl ?_)
    refine wU (gE rfl ?_)
    refine wG rfl rfl rfl rfl (by decide) (fun c20 => ?_) (fun c20 => ?_)
    · skip
      refine gE rfl ?_
      refine wY rfl (gE rfl ?_)
      refine wU (gE rfl ?_)
      refine wOps.done ?_
      refine hK19 _ _ _ ?_
      clear hK19 K18
      refine WC.cond rfl (fun c21 => ?_) (fun c21 => ?_)
      · skip
        refine WC.region ?_
        refine wU (gE rfl ?_)
        refine wU (gE rfl ?_)
        refine wU (gE rfl ?_)
        refine wU (gE rfl ?_)
        refine wU (gE rfl ?_)
        refine wU (gIdxS tslice102 tsz5 rfl rfl (by omega) (by omega) ?_)
        have hlow := lowB_u8 (c := s[i]) (by have := of_decide_eq_true c20; omega) (by have := of_decide_eq_true c21; omega)
        refine wU (gStore rfl rfl (by simp only [hget, ↓reduceIte] <;> rfl) tsz5 (by rw [byteCells_length]; simp [vcells]; omega) (by simp [vcells, leafV]) ?_)
        simp only [hset, stL, vcells, ↓reduceIte, hlow, mapUp_set hi]
        refine wOps.done ?_
        refine hK15 _ _ _ ?_
        clear hK15 K14
        refine WC.region ?_
        refine wU (gE rfl ?_)
        refine wU (gE rfl ?_)
        refine wOps.done ?_
        exact ⟨i + 1, rfl, by omega, by omega, (Ent.sub (sub_cons rfl (sub_cons rfl (sub_cons rfl (sub_cons rfl (sub_cons (int_fit (by omega) (by omega) (by omega)) (sub_nil _)))))))⟩
      · skip
        refine WC.skip ?_
        refine hK15 _ _ _ ?_
        clear hK15 K14
        refine WC.region ?_
        refine wU (gE rfl ?_)
        refine wU (gE rfl ?_)
        refine wOps.done ?_
        have hno : lowB s[i] = s[i] := lowB_no (by intro hh; simp_all <;> omega)
        rw [mapUp_same hi hno]
        exact ⟨i + 1, rfl, by omega, by omega, (Ent.sub (sub_cons rfl (sub_cons rfl (sub_cons rfl (sub_cons rfl (sub_cons (int_fit (by omega) (by omega) (by omega)) (sub_nil _)))))))⟩
    · skip
      refine wN rfl ?_
      refine wU (gE rfl ?_)
      refine wOps.done ?_
      refine hK19 _ _ _ ?_
      clear hK19 K18
      first | refine WC.cond (b := false) rfl (fun hh => by simp at hh) (fun _ => ?_) | refine WC.cond rfl (fun hh => by simp_all) (fun _ => ?_)
      refine WC.skip ?_
      refine hK15 _ _ _ ?_
      clear hK15 K14
      refine WC.region ?_
      refine wU (gE rfl ?_)
      refine wU (gE rfl ?_)
      refine wOps.done ?_
      have hno : lowB s[i] = s[i] := lowB_no (by intro hh; simp_all <;> omega)
      rw [mapUp_same hi hno]
      exact ⟨i + 1, rfl, by omega, by omega, (Ent.sub (sub_cons rfl (sub_cons rfl (sub_cons rfl (sub_cons rfl (sub_cons (int_fit (by omega) (by omega) (by omega)) (sub_nil _)))))))⟩
  · skip
    refine WC.exit ?_
    refine hK6 _ _ _ ?_
    clear hK12 K11 hK6 K5
    refine WC.seq_k fun K22 hK23 => ?_
    refine WC.region ?_
    refine wU (gE rfl ?_)
    refine wU (gOfBytes tslice102 tint5 tisstr9 rfl (by simp only [hget, ↓reduceIte] <;> rfl) (by simp; omega) ?_)
    refine wU (gE rfl ?_)
    refine wOps.done ?_
    refine hK23 _ _ _ ?_
    clear hK23 K22
    refine WC.ret ?_
    have he : i = s.length := by have := of_decide_eq_false c13; omega
    exact ⟨_, rfl, by rw [he]; simp⟩
end Go.Proofs.YtmohgegpcfkooaaGreatDoor.W
end

section
namespace Go.Proofs.YtmohgegpcfkooaaGreatDoor.W
open Go.Fw
variable [Gl]
theorem tagg25 : tagg Tryz.prog 25 = some false := by kernel_rfl
end Go.Proofs.YtmohgegpcfkooaaGreatDoor.W
end

section
namespace Go.Proofs.YtmohgegpcfkooaaGreatDoor.W
open Go.Fw
variable [Gl]
theorem tzero9 : tzero Tryz.prog 9 = some [.str []] := by kernel_rfl
set_option maxRecDepth 20000
end Go.Proofs.YtmohgegpcfkooaaGreatDoor.W
end

section
namespace Go.Proofs.YtmohgegpcfkooaaGreatDoor.W
open Go.Fw
variable [Gl]
set_option maxRecDepth 20000
theorem el25 : ElemOk Tryz.prog 25 9 1 16 [.str []] := ⟨tslice25, tsz9, by kernel_rfl, tzero9, rfl, by decide, by decide⟩
theorem app25 : appT Tryz.prog 25 = true := by kernel_rfl
theorem scs_length (l : List By) : (scs l).length = l.length := by simp [scs]
end Go.Proofs.YtmohgegpcfkooaaGreatDoor.W
end

section
namespace Go.Proofs.YtmohgegpcfkooaaGreatDoor.W
open Go.Fw Go.Sort Go.RowKit
variable [Gl]
def srt (l : List By) : List By := l.mergeSort fun x y => decide (x ≤ y)
theorem srt_length (l : List By) : (srt l).length = l.length := by simp [srt]
theorem sort_tri {b cap nn : Nat} {T : TypeId} {ss : List By} {rest : List V} (hl : ss.length < 4611686018427387904) (hc : ss.length ≤ cap) :
    Tri Tryz.prog 33 [.slice b 0 ss.length cap] [(b, .cells T (scs ss ++ rest) nn)] fun v h' => v = .tup [] ∧ h' = [(b, .cells T (scs (srt ss) ++ rest) nn)] :=
  Tri.rowStr (fun _ _ _ => .tuple #[]) (srt_length ss) (fun F => .tup [] #[] rfl fun i v h => by simp at h) hc (fun blk off cap w h1 h2 h3 _ => Tryz.slices_Sort_string blk off cap ss w h1 h2 h3) hl
theorem sort_nil (v : V) (hv : v = .nilslice) : PTri Tryz.prog 33 [v] (.tup []) := by
  subst hv
  refine PTri.of_same #[.slice none 0 0] (.tuple #[]) (fun F av h => ?_) (fun w => Tryz.slices_Sort_string_none none 0 w) fun F => .tup [] #[] rfl fun i v h => by simp at h
  have h0 := (h.2 0 _ rfl).nilslice_inv
  have hs := h.1
  simp at hs
  obtain ⟨L⟩ := av
  match L, hs with
  | [x], _ => simp at h0; rw [h0]
def cpt (l : List By) : List By := Lib.compact l
theorem compact_tri {b cap nn : Nat} {T : TypeId} {ss : List By} {rest : List V} (hl : ss.length < 4611686018427387904) (hc : ss.length ≤ cap) (hle : (cpt ss).length ≤ ss.length) :
    Tri Tryz.prog 34 [.slice b 0 ss.length cap] [(b, .cells T (scs ss ++ rest) nn)] fun v h' => v = .slice b 0 (cpt ss).length cap ∧ h' = [(b, .cells T (scs (cpt ss ++ List.replicate (ss.length - (cpt ss).length) []) ++ rest) nn)] :=
  Tri.rowStr (fun blk off cap => .slice (some ⟨blk, off, none⟩) (cpt ss).length cap) (by simp; omega) (fun F => .slice b 0 _ _ (by omega)) hc
    (fun blk off cap w h1 h2 h3 h4 => (Tryz.slices_Compact_string blk off cap ss w h1 (by omega) h4).mono fun e w' ⟨a, q, c⟩ => ⟨a, q, #[], by rw [c, grow_empty]; rfl⟩) hl
end Go.Proofs.YtmohgegpcfkooaaGreatDoor.W
end

section
namespace Go.Proofs.YtmohgegpcfkooaaGreatDoor.W
open Go.Fw
variable [Gl]
theorem isGo33 : isGo Tryz.prog 33 = true := by kernel_rfl
theorem isGo34 : isGo Tryz.prog 34 = true := by kernel_rfl
theorem isGo42 : isGo Tryz.prog 42 = true := by kernel_rfl
theorem isGo43 : isGo Tryz.prog 43 = true := by kernel_rfl
theorem isGo44 : isGo Tryz.prog 44 = true := by kernel_rfl
theorem isGo70 : isGo Tryz.prog 70 = true := by kernel_rfl
theorem tsz25 : tsz Tryz.prog 25 = some 1 := by kernel_rfl
theorem tzero25 : tzero Tryz.prog 25 = some [.nilslice] := by kernel_rfl
set_option maxRecDepth 20000
abbrev tbB (c : UInt8) : Bool := isTB c.toNat
def tf (w : By) : By := (w.take 40).map lowB
def rawTerms (s : By) : List By := (wordsG tbB [] s).map tf
theorem minI (n : Nat) : evMin (.int .i64 (n : Nat)) [.int .i64 40] = some (.int .i64 ((min n 40 : Nat) : Int)) := by
  simp only [evMin, if_true]
  congr 2
  split <;> omega
theorem compact_nil : PTri Tryz.prog 34 [.nilslice] .nilslice := by
  refine PTri.of_same #[.slice none 0 0] (.slice none 0 0) (fun F av h => ?_) (fun w => Tryz.slices_Compact_string_empty none 0 w) fun F => .nilslice
  have h0 := (h.2 0 _ rfl).nilslice_inv
  have hs := h.1
  simp at hs
  obtain ⟨L⟩ := av
  match L, hs with
  | [x], _ => simp at h0; rw [h0]
def TI (ws : List By) (b : Nat) (k : Nat) (h : Hp) : Prop := (k = 0 ∧ h = [(b, .cells 25 [.nilslice] 1)]) ∨ (0 < k ∧ ∃ q N, ¬ q = b ∧ k ≤ N ∧ h = [(q, .cells 9 (scs ((ws.take k).map tf)) (N * 1)), (b, .cells 25 [.slice q 0 k N] 1)])
theorem wordsG_len (p : UInt8 → Bool) : ∀ (s acc : By), (wordsG p acc s).length ≤ s.length + 1
  | [], acc => by simp only [wordsG]; split <;> simp
  | c :: s, acc => by
    simp only [wordsG]
    split
    · have := wordsG_len p s (acc ++ [c]); simp; omega
    · have := wordsG_len p s []; rw [List.length_append]; split <;> simp <;> omega
theorem terms_tri0 (s : By) (hs : s.length ≤ 4294967294) : Tri Tryz.prog 17 [.str s] [] fun v h' => (rawTerms s = [] ∧ v = .nilslice) ∨ ∃ q N rest, v = .slice q 0 (cpt (srt (rawTerms s))).length N ∧ hget h' q = some (.cells 9 (scs (cpt (srt (rawTerms s))) ++ rest) (N * 1)) := by
  have hw := wordsG_len tbB s []
  unfold rawTerms
  generalize hws : wordsG tbB [] s = ws at hw
  have hss : ws.map tf = ws.map tf := rfl
  generalize hsd : ws.map tf = ss at hss
  have hsl : ws.length = ss.length := by rw [← hsd]; simp
  refine Tri.of_wc Tryz.func17 rfl Tryz.results17 Tryz.ntmps17 (by simp) ?_
  refine WC.seq_k fun K1 hK2 => ?_
  refine WC.region ?_
  refine wU (gE rfl ?_)
  refine wOps.done ?_
  refine hK2 _ _ _ ?_
  clear hK2 K1
  refine WC.seq_k fun K3 hK4 => ?_
  refine WC.region ?_
  refine wU (gAlloc tzero25 fun b5 hb5 => ?_)
  refine wOps.done ?_
  refine hK4 _ _ _ ?_
  clear hK4 K3
  refine WC.seq_k fun K6 hK7 => ?_
  refine WC.seq_k fun K8 hK9 => ?_
  refine WC.region ?_
  refine wU (gE rfl ?_)
  refine wU (gPure rfl isGo42 (words_tri s 43) ?_)
  refine wOps.done ?_
  refine hK9 _ _ _ ?_
  clear hK9 K8
  refine WC.block ?_
  refine WC.range (f := 70) (caps := [.fptr [.str s] 0, .fptr [.clo 43 []] 0]) (xs := ws.map fun w => [.str w]) (TI ws b5) (fun c h => False) rfl isGo70 (hws ▸ words1_iter 43 tbB isGo43 (fun c => isTB_tri c.toNat) s (by omega)) (by decide) (by intro a ha; obtain ⟨p, -, rfl⟩ := List.mem_map.1 ha; rfl) ?_ ?_ ?_ ?_
  · exact .inl ⟨rfl, rfl⟩
  · intro y k hk h hI
    rw [List.length_map] at hk
    simp only [List.getElem_map]
    show WC _ _ _ _ (upd _ 7 (.str ws[k])) _ _ _
    refine WC.region ?_
    refine wU (gE rfl ?_)
    refine wOps.done ?_
    simp only [thn]
    refine WC.post ?_
    rcases hI with ⟨hk0, rfl⟩ | ⟨hk0, q, N, hqb, hkN, rfl⟩
    · skip
      refine WC.block ?_
      refine WC.region_draw mixed ?_
      refine wA.val 1 rfl rfl rfl (fun _ _ hK => gE rfl hK) (by kernel_rfl) ?_
      refine wA.val 2 rfl rfl rfl (fun _ _ hK => gE rfl hK) (by kernel_rfl) ?_
      refine wA.val 3 rfl rfl rfl (fun _ _ hK => gLen rfl rfl tisstr9 hK) (by kernel_rfl) ?_
      refine wA.val 4 rfl rfl rfl (fun _ _ hK => by refine gMin (v := .int .i64 ((min ws[k].length 40 : Nat) : Int)) rfl (minI _) ?_; exact hK) (by kernel_rfl) ?_
      refine wA.val 5 rfl rfl rfl (fun _ _ hK => by refine gSliceStr (r := some (min ws[k].length 40)) tisstr9 rfl rfl rfl (by simp) (by simp; omega) ?_; exact hK) (by kernel_rfl) ?_
      refine wA.val 6 rfl rfl rfl (fun _ _ hK => by refine gPure rfl isGo44 (low_tri _ (by simp; omega)) ?_; exact hK) (by kernel_rfl) ?_
      refine wA.ld 0 rfl rfl rfl (fun _ hle _ hK => gLoad tagg25 rfl (hle _ _ (by simp only [hget, ↓reduceIte] <;> rfl)) rfl hK) (by kernel_rfl) ?_
      refine wA.eff 7 rfl (by kernel_rfl) rfl ?_
      refine gBuildSlice (cs := [.str (tf ws[k])]) tslice25 tsz9 tzero9 rfl (by simp [evFill, putL, zcells, vcells, tf, Nat.min_comm]) (by decide) (by decide) fun b10 hb10 => ?_
      simp only [Hp.ns_cons, Hp.ns_nil, List.mem_cons, List.not_mem_nil, or_false, not_or] at hb10
      simp only [List.length_singleton]
      refine wA.back ?_
      refine wA.eff 8 rfl (by kernel_rfl) rfl ?_
      refine gOp (OpS.append_nil (m := 1) (us := [.str (tf ws[k])]) ⟨rfl⟩ el25 app25 rfl rfl (by simp [evSrc, hget]) (by omega) (fun h => by simp at h) fun _ q N hq hN => ?_) rfl
      simp [hdel, hb10] at hq
      refine wA.back ?_
      refine wA.eff 9 rfl (by kernel_rfl) rfl ?_
      refine gStore rfl rfl (by simp only [hget, hb10, hq, ↓reduceIte] <;> rfl) tsz25 (by simp [vcells]) (by simp [vcells, leafV]) ?_
      simp only [hset, stL, vcells, List.set_cons_zero, List.set_cons_succ, hb10, hq, ↓reduceIte]
      refine wA.back0 ?_
      refine wA.done (by kernel_rfl) ?_
      have e : (ws.take (k + 1)).map tf = [tf ws[k]] := by rw [List.take_succ_eq_append_getElem hk]; simp [hk0]
      refine ⟨frL [], [(q, .cells 9 [.str (tf ws[k])] (N * 1)), (b5, .cells 25 [.slice q 0 1 N] 1)], (Ent.sub (sub_nil _)).trans (Ent.drop ?_), .inr ⟨by omega, q, N, hq.2, by omega, ?_⟩⟩
      · exact List.Sublist.cons_cons _ (List.sublist_cons_self _ _)
      · rw [e]; simp [scs, hk0]
    · skip
      refine WC.block ?_
      refine WC.region_draw mixed ?_
      refine wA.val 1 rfl rfl rfl (fun _ _ hK => gE rfl hK) (by kernel_rfl) ?_
      refine wA.val 2 rfl rfl rfl (fun _ _ hK => gE rfl hK) (by kernel_rfl) ?_
      refine wA.val 3 rfl rfl rfl (fun _ _ hK => gLen rfl rfl tisstr9 hK) (by kernel_rfl) ?_
      refine wA.val 4 rfl rfl rfl (fun _ _ hK => by refine gMin (v := .int .i64 ((min ws[k].length 40 : Nat) : Int)) rfl (minI _) ?_; exact hK) (by kernel_rfl) ?_
      refine wA.val 5 rfl rfl rfl (fun _ _ hK => by refine gSliceStr (r := some (min ws[k].length 40)) tisstr9 rfl rfl rfl (by simp) (by simp; omega) ?_; exact hK) (by kernel_rfl) ?_
      refine wA.val 6 rfl rfl rfl (fun _ _ hK => by refine gPure rfl isGo44 (low_tri _ (by simp; omega)) ?_; exact hK) (by kernel_rfl) ?_
      refine wA.ld 0 rfl rfl rfl (fun _ hle _ hK => gLoad tagg25 rfl (hle _ _ (by simp only [hget, hqb, ↓reduceIte] <;> rfl)) rfl hK) (by kernel_rfl) ?_
      refine wA.eff 7 rfl (by kernel_rfl) rfl ?_
      refine gBuildSlice (cs := [.str (tf ws[k])]) tslice25 tsz9 tzero9 rfl (by simp [evFill, putL, zcells, vcells, tf, Nat.min_comm]) (by decide) (by decide) fun b11 hb11 => ?_
      simp only [Hp.ns_cons, Hp.ns_nil, List.mem_cons, List.not_mem_nil, or_false, not_or] at hb11
      simp only [List.length_singleton]
      refine wA.back ?_
      refine wA.eff 8 rfl (by kernel_rfl) rfl ?_
      refine gOp (OpS.append_lin (m := 1) (us := [.str (tf ws[k])]) ⟨rfl⟩ el25 app25 rfl rfl (by simp [hget, hqb, hb11] <;> rfl) (by simp [scs]; omega) (by simp [evSrc, hget]) rfl (by omega) fun q2 N2 hq2 hN2 => ?_) rfl
      simp [hdel, hqb, hb11] at hq2
      simp only [hdel, ↓reduceIte, hqb, hb11, hq2]
      refine wA.back ?_
      refine wA.eff 9 rfl (by kernel_rfl) rfl ?_
      refine gStore rfl rfl (by simp only [hget, hqb, hb11, hq2, ↓reduceIte] <;> rfl) tsz25 (by simp [vcells]) (by simp [vcells, leafV]) ?_
      simp only [hset, stL, vcells, List.set_cons_zero, List.set_cons_succ, hqb, hb11, hq2, ↓reduceIte]
      refine wA.back0 ?_
      refine wA.done (by kernel_rfl) ?_
      have e : (ws.take (k + 1)).map tf = (ws.take k).map tf ++ [tf ws[k]] := by rw [List.take_succ_eq_append_getElem hk, List.map_append]; rfl
      have e3 : List.take k (List.map tf ws) = (ws.take k).map tf := by simp
      try rw [e3]
      have e2 : (scs ((ws.take k).map tf)).take (k * 1) = scs ((ws.take k).map tf) := List.take_of_length_le (by simp [scs]; omega)
      rw [e2]
      refine ⟨frL [], [(q2, .cells 9 (scs ((ws.take k).map tf) ++ [.str (tf ws[k])]) (N2 * 1)), (b5, .cells 25 [.slice q2 0 (k + 1) N2] 1)], (Ent.sub (sub_nil _)).trans (Ent.drop ?_), .inr ⟨by omega, q2, N2, hq2.2, by omega, ?_⟩⟩
      · exact List.Sublist.cons_cons _ (List.sublist_cons_self _ _)
      · rw [e]; simp [scs]
  · rintro r h hr hI
    rw [List.length_map] at hI
    rcases hI with ⟨hk0, rfl⟩ | ⟨hk0, q, N, hqb, hkN, rfl⟩
    · simp only [Hp.ns_cons, Hp.ns_nil, List.mem_cons, List.not_mem_nil, or_false, not_or] at hr
      refine hK7 _ _ _ ?_
      clear hK7 K6
      refine WC.seq_k fun K12 hK13 => ?_
      refine WC.region ?_
      refine wU (gLoad tagg25 rfl (by simp only [hget, hr, ↓reduceIte] <;> rfl) rfl ?_)
      refine wU (gPure (by rfl) isGo33 (sort_nil _ rfl) ?_)
      refine wOps.done ?_
      refine hK13 _ _ _ ?_
      clear hK13 K12
      refine WC.seq_k fun K14 hK15 => ?_
      refine WC.region ?_
      refine wU (gLoad tagg25 rfl (by simp only [hget, hr, ↓reduceIte] <;> rfl) rfl ?_)
      refine wU (gPure (by rfl) isGo34 compact_nil ?_)
      refine wU (gE rfl ?_)
      refine wOps.done ?_
      refine hK15 _ _ _ ?_
      clear hK15 K14
      refine WC.ret ?_
      refine ⟨by simp [hget], .nilslice, rfl, .inl ⟨?_, rfl⟩⟩
      exact List.length_eq_zero_iff.1 (by omega)
    · simp only [Hp.ns_cons, Hp.ns_nil, List.mem_cons, List.not_mem_nil, or_false, not_or] at hr
      rw [List.take_length, hsd, hsl]
      refine hK7 _ _ _ ?_
      clear hK7 K6
      refine WC.seq_k fun K16 hK17 => ?_
      refine WC.region ?_
      refine wU (gLoad tagg25 rfl (by simp only [hget, hqb, hr.1, hr.2, Ne.symm hqb, Ne.symm hr.1, ↓reduceIte] <;> rfl) rfl ?_)
      have hm := (sort_tri (b := q) (cap := N) (nn := N * 1) (T := 9) (ss := ss) (rest := []) (by omega) (by omega)).frame [(r, .deferred), (b5, .cells 25 [.slice q 0 ss.length N] 1)]
      simp only [List.append_nil, List.singleton_append] at hm
      have hm1 := hm.perm (h := [(r, .deferred), (q, .cells 9 (scs ss) (N * 1)), (b5, .cells 25 [.slice q 0 ss.length N] 1)]) (List.Perm.swap _ _ _)
      refine wU (gCall (by rfl) (@CallS.mono _ Tryz.prog 33 _ _ _ _ (@CallS.of_tri _ Tryz.prog 33 _ _ _ isGo33 hm1) ?_))
      rintro v h1 ⟨h2, rfl, ⟨rfl, rfl⟩, -⟩
      simp only [List.nil_append, List.cons_append]
      refine wOps.done ?_
      refine hK17 _ _ _ ?_
      clear hK17 K16
      refine WC.seq_k fun K18 hK19 => ?_
      refine WC.region ?_
      refine wU (gLoad tagg25 rfl (by simp only [hget, hqb, hr.1, hr.2, Ne.symm hqb, Ne.symm hr.1, ↓reduceIte] <;> rfl) rfl ?_)
      have hm := (compact_tri (b := q) (cap := N) (nn := N * 1) (T := 9) (ss := srt ss) (rest := []) (by rw [srt_length]; omega) (by rw [srt_length]; omega) (Lib.compact_length_le _)).frame [(r, .deferred), (b5, .cells 25 [.slice q 0 ss.length N] 1)]
      rw [srt_length] at hm
      simp only [List.append_nil, List.singleton_append] at hm
      refine wU (gCall (by rfl) (@CallS.mono _ Tryz.prog 34 _ _ _ _ (@CallS.of_tri _ Tryz.prog 34 _ _ _ isGo34 hm) ?_))
      rintro v h1 ⟨h2, rfl, ⟨rfl, rfl⟩, -⟩
      simp only [List.nil_append, List.cons_append]
      refine wU (gE rfl ?_)
      refine wOps.done ?_
      refine hK19 _ _ _ ?_
      clear hK19 K18
      refine WC.ret ?_
      refine ⟨by simp [hget, hr, Ne.symm hr.1], .slice q 0 (cpt (srt ss)).length N, rfl, .inr ⟨q, N, List.replicate (ss.length - (cpt (srt ss)).length) [] |>.map .str, rfl, ?_⟩⟩
      simp [hdel, hget, hr, hqb, Ne.symm hqb, Ne.symm hr.1, scs]
  · exact fun r h c hr hf => hf.elim
theorem terms_tri (s : By) (hs : s.length ≤ 4294967294) : PTri Tryz.prog 17 [.str s] (ssl (cpt (srt (rawTerms s)))) := by
  refine Tri.vent (terms_tri0 s hs) ?_
  rintro v h' (⟨h0, rfl⟩ | ⟨q, N, rest, rfl, hg⟩)
  · rw [h0]
    have e : cpt (srt []) = [] := by unfold srt; rw [List.mergeSort_nil]; rfl
    rw [e]
    exact ⟨_, _, .drop (List.nil_sublist _) (.weak VLe.nils (.refl _ _)), rfl, rfl⟩
  · refine ⟨_, _, .freeze q hg (.drop (List.nil_sublist _) (.weak ?_ (.refl _ _))), rfl, rfl⟩
    have := VLe.cut (cs := scs (cpt (srt (rawTerms s))) ++ rest) (len := (cpt (srt (rawTerms s))).length) (cpt (srt (rawTerms s))).length (fun h => h)
    rw [List.take_append_of_le_length (by rw [scs_length]; omega), List.take_of_length_le (by rw [scs_length]; omega)] at this
    simpa [frzV, ssl] using this
end Go.Proofs.YtmohgegpcfkooaaGreatDoor.W
end

section
namespace Go.Proofs.YtmohgegpcfkooaaGreatDoor.W
open Go.Fw
theorem srt_sorted (l : List By) : (srt l).Pairwise (· ≤ ·) := by
  have := List.pairwise_mergeSort (le := fun (x y : By) => decide (x ≤ y)) (fun a b c h1 h2 => by simp at *; exact le_tr h1 h2) (fun a b => by simp; exact List.le_total a b) l
  refine this.imp ?_
  intro a b h
  simpa using h
theorem srt_mem (l : List By) (x : By) : x ∈ srt l ↔ x ∈ l := (List.mergeSort_perm l _).mem_iff
theorem cpt_inv (zs : List By) (hs : zs.Pairwise (· ≤ ·)) : ∀ m, m ≤ zs.length → (Lib.compactUpTo zs.toArray m).Pairwise (· < ·) ∧ (∀ x, x ∈ Lib.compactUpTo zs.toArray m ↔ x ∈ zs.take m) ∧ ∀ x, x ∈ Lib.compactUpTo zs.toArray m → ∀ y, zs[m - 1]? = some y → x ≤ y
  | 0, _ => by simp [Lib.compactUpTo]
  | m + 1, hm => by
    obtain ⟨h1, h2, h3⟩ := cpt_inv zs hs m (by omega)
    have hmm : m < zs.length := by omega
    have e : zs.toArray[m]! = zs[m] := by rw [getElem!_pos _ m (by simpa using hmm)]; simp
    rw [Lib.compactUpTo_succ, e]
    have et : zs.take (m + 1) = zs.take m ++ [zs[m]] := List.take_succ_eq_append_getElem hmm
    by_cases hk : Lib.keeps zs.toArray m = true
    · rw [if_pos hk]
      have hlt : ∀ x, x ∈ Lib.compactUpTo zs.toArray m → x < zs[m] := by
        intro x hx
        simp only [Lib.keeps, decide_eq_true_eq] at hk
        rcases hk with rfl | hk
        · simp [Lib.compactUpTo] at hx
        · have hm0 : m ≠ 0 := by rintro rfl; simp [Lib.compactUpTo] at hx
          have e' : zs.toArray[m - 1]! = zs[m - 1] := by rw [getElem!_pos _ (m - 1) (by simp; omega)]; simp
          rw [e, e'] at hk
          have hle : x ≤ zs[m - 1] := h3 x hx _ (by simp)
          have hle2 : zs[m - 1] ≤ zs[m] := List.pairwise_iff_getElem.1 hs (m - 1) m (by omega) hmm (by omega)
          refine lt_ne (le_tr hle hle2) fun hxe => ?_
          subst hxe
          exact hk (le_anti hle hle2)
      refine ⟨List.pairwise_append.2 ⟨h1, by simp, fun a ha b hb => ?_⟩, fun x => ?_, fun x hx y hy => ?_⟩
      · simp only [List.mem_singleton] at hb; subst hb; exact hlt a ha
      · rw [et, List.mem_append, List.mem_append, h2]
      · have hy' : y = zs[m] := by simp [hmm] at hy; exact hy.symm
        subst hy'
        rcases List.mem_append.1 hx with h | h
        · exact lt_le (hlt x h)
        · simp only [List.mem_singleton] at h; subst h; exact List.le_refl _
    · rw [if_neg hk, List.append_nil]
      have hk' : m ≠ 0 ∧ zs.toArray[m]! = zs.toArray[m - 1]! := by
        simp only [Lib.keeps, decide_eq_true_eq, not_or] at hk
        exact ⟨hk.1, Classical.byContradiction hk.2⟩
      have e' : zs.toArray[m - 1]! = zs[m - 1] := by rw [getElem!_pos _ (m - 1) (by simp; omega)]; simp
      rw [e, e'] at hk'
      have hmem : zs[m] ∈ zs.take m := by
        rw [hk'.2]
        exact List.mem_take_iff_getElem.2 ⟨m - 1, by omega, rfl⟩
      refine ⟨h1, fun x => ?_, fun x hx y hy => ?_⟩
      · rw [et, List.mem_append, h2]
        simp only [List.mem_singleton]
        exact ⟨.inl, fun h => h.elim id fun h => h ▸ hmem⟩
      · have hy' : y = zs[m] := by simp [hmm] at hy; exact hy.symm
        subst hy'
        rw [hk'.2]
        exact h3 x hx _ (by simp)
theorem cs_sorted (l : List By) : (cpt (srt l)).Pairwise (· < ·) := (cpt_inv _ (srt_sorted l) _ (Nat.le_refl _)).1
theorem cs_mem (l : List By) (x : By) : x ∈ cpt (srt l) ↔ x ∈ l := by
  have := (cpt_inv _ (srt_sorted l) _ (Nat.le_refl _)).2.1 x
  rw [List.take_length] at this
  exact this.trans (srt_mem l x)
theorem asc_eq : ∀ (a b : List By), a.Pairwise (· < ·) → b.Pairwise (· < ·) → (∀ x, x ∈ a ↔ x ∈ b) → a = b
  | [], [], _, _, _ => rfl
  | [], y :: b, _, _, h => by have := (h y).2 (by simp); simp at this
  | x :: a, [], _, _, h => by have := (h x).1 (by simp); simp at this
  | x :: a, y :: b, ha, hb, h => by
    rw [List.pairwise_cons] at ha hb
    have exy : x = y := by
      rcases List.mem_cons.1 ((h x).1 (by simp)) with e | e
      · exact e
      · rcases List.mem_cons.1 ((h y).2 (by simp)) with e' | e'
        · exact e'.symm
        · exact (lt_irr (lt_tr (hb.1 x e) (ha.1 y e'))).elim
    subst exy
    rw [asc_eq a b ha.2 hb.2 fun z => ⟨fun hz => ?_, fun hz => ?_⟩]
    · rcases List.mem_cons.1 ((h z).1 (List.mem_cons_of_mem _ hz)) with e | e
      · subst e; exact (lt_irr (ha.1 _ hz)).elim
      · exact e
    · rcases List.mem_cons.1 ((h z).2 (List.mem_cons_of_mem _ hz)) with e | e
      · subst e; exact (lt_irr (hb.1 _ hz)).elim
      · exact e
theorem wordsG_all (p : UInt8 → Bool) : ∀ (x acc : By), x.all p = true → wordsG p acc x = if acc ++ x = [] then [] else [acc ++ x]
  | [], acc, _ => by simp [wordsG]
  | c :: x, acc, h => by
    simp only [List.all_cons, Bool.and_eq_true] at h
    simp only [wordsG, h.1, if_true]
    rw [wordsG_all p x _ h.2]
    simp
theorem tf_len (w : By) : (tf w).length ≤ 40 := by simp [tf]; omega
def termsL (s : By) : List By := cpt (srt (rawTerms s))
theorem terms_mem (s x : By) : x ∈ termsL s ↔ x ∈ rawTerms s := cs_mem _ _
theorem terms_sorted (s : By) : (termsL s).Pairwise (· < ·) := cs_sorted _
end Go.Proofs.YtmohgegpcfkooaaGreatDoor.W
end

section
namespace Go.Proofs.YtmohgegpcfkooaaGreatDoor.W
open Go.Fw
variable [Gl]
theorem tzero5 : tzero Tryz.prog 5 = some [.int .u8 0] := by kernel_rfl
set_option maxRecDepth 20000
theorem appT102 : appT Tryz.prog 102 = true := by kernel_rfl
theorem el102 : ElemOk Tryz.prog 102 5 1 1 [.int .u8 0] := ⟨tslice102, tsz5, by kernel_rfl, tzero5, rfl, by decide, by decide⟩
end Go.Proofs.YtmohgegpcfkooaaGreatDoor.W
end

section
namespace Go.Proofs.YtmohgegpcfkooaaGreatDoor.W
open Go.Fw Go.Proofs
theorem bl_no (x y : By) : Op.bytesLess x y = false ↔ y ≤ x := by
  rw [← Bool.not_eq_true, bl_iff]
  exact List.not_lt
end Go.Proofs.YtmohgegpcfkooaaGreatDoor.W
end

section
namespace Go.Proofs.YtmohgegpcfkooaaGreatDoor.W
open Go.Fw
variable [Gl]
theorem isGo64 : isGo Tryz.prog 64 = true := by kernel_rfl
theorem isGo37 : isGo Tryz.prog 37 = true := by kernel_rfl
set_option maxRecDepth 20000
theorem wrap_low {c : UInt8} (h1 : 65 ≤ (c.toNat : Int)) (h2 : (c.toNat : Int) ≤ 90) : IntKind.u8.wrap ((c.toNat : Int) + 32) = ((lowB c).toNat : Int) := by
  have e : lowB c = c + 32 := by unfold lowB; rw [if_pos (by omega)]
  have e2 : (c + 32).toNat = c.toNat + 32 := by rw [UInt8.toNat_add]; simp; omega
  rw [e, e2]
  simp only [IntKind.wrap, IntKind.bits, IntKind.signed]
  simp; omega
theorem letter2_tri (c : UInt8) : PTri Tryz.prog 64 [.int .u8 c.toNat] (.tup [.int .u8 (lowB c).toNat, .bool (tbB c)]) := by
  refine Tri.of_wc Tryz.func64 rfl Tryz.results64 Tryz.ntmps64 (by simp) ?_
  refine WC.seq_k fun K1 hK2 => ?_
  refine WC.region ?_
  refine wU (gE rfl ?_)
  refine wU (gE rfl ?_)
  refine wOps.done ?_
  refine hK2 _ _ _ ?_
  clear hK2 K1
  refine WC.seq_k fun K3 hK4 => ?_
  refine WC.seq_k fun K5 hK6 => ?_
  refine WC.region ?_
  refine wU (gE rfl ?_)
  refine wU (gE rfl ?_)
  refine wU (gE rfl ?_)
  refine wG rfl rfl rfl rfl (by decide) (fun c7 => ?_) (fun c7 => ?_)
  · skip
    refine gE rfl ?_
    refine wY rfl (gE rfl ?_)
    refine wU (gE rfl ?_)
    refine wOps.done ?_
    refine hK6 _ _ _ ?_
    clear hK6 K5
    refine WC.cond rfl (fun c8 => ?_) (fun c8 => ?_)
    · skip
      refine WC.seq_k fun K9 hK10 => ?_
      refine WC.region ?_
      refine wU (gE rfl ?_)
      refine wU (gE rfl ?_)
      refine wU (gE rfl ?_)
      refine wU (gE rfl ?_)
      refine wOps.done ?_
      refine hK10 _ _ _ ?_
      clear hK10 K9
      refine WC.ret ?_
      have h1 : (65 : Int) ≤ c.toNat := by simpa using c7
      have h2 : (c.toNat : Int) ≤ 90 := by simpa using c8
      exact ⟨_, rfl, by rw [wrap_low h1 h2]; simp [tbB, isTB, h1, h2], rfl⟩
    · skip
      refine WC.skip ?_
      refine hK4 _ _ _ ?_
      clear hK4 K3
      refine WC.seq_k fun K11 hK12 => ?_
      refine WC.region ?_
      refine wU (gE rfl ?_)
      refine wU (gE rfl ?_)
      refine wU (gE rfl ?_)
      refine wU (gE rfl ?_)
      refine wG rfl rfl rfl rfl (by decide) (fun c13 => ?_) (fun c13 => ?_)
      · skip
        refine gE rfl ?_
        refine wY rfl (gE rfl ?_)
        refine wU (gE rfl ?_)
        refine wU (gE rfl ?_)
        refine wG rfl rfl rfl rfl (by decide) (fun c14 => ?_) (fun c14 => ?_)
        · skip
          refine gE rfl ?_
          refine wY rfl (gE rfl ?_)
          refine wY rfl (gE rfl ?_)
          refine wG rfl rfl rfl rfl (by decide) (fun c15 => ?_) (fun c15 => ?_)
          · skip
            refine gE rfl ?_
            refine wY rfl (gE rfl ?_)
            refine wY rfl (gE rfl ?_)
            refine wU (gE rfl ?_)
            refine wU (gE rfl ?_)
            refine wG rfl rfl rfl rfl (by decide) (fun c16 => ?_) (fun c16 => ?_)
            · skip
              refine gE rfl ?_
              refine wY rfl (gE rfl ?_)
              refine wU (gE rfl ?_)
              refine wU (gE rfl ?_)
              refine wU (gE rfl ?_)
              refine wOps.done ?_
              refine hK12 _ _ _ ?_
              clear hK12 K11
              refine WC.ret ?_
              have hn : ¬ (65 ≤ (c.toNat : Int) ∧ (c.toNat : Int) ≤ 90) := by simp_all <;> omega
              refine ⟨_, rfl, ?_, rfl⟩
              rw [lowB_no hn]
              congr 3
              simp_all [tbB, isTB] <;> omega
            · skip
              refine wN rfl ?_
              refine wU (gE rfl ?_)
              refine wU (gE rfl ?_)
              refine wU (gE rfl ?_)
              refine wOps.done ?_
              refine hK12 _ _ _ ?_
              clear hK12 K11
              refine WC.ret ?_
              have hn : ¬ (65 ≤ (c.toNat : Int) ∧ (c.toNat : Int) ≤ 90) := by simp_all <;> omega
              refine ⟨_, rfl, ?_, rfl⟩
              rw [lowB_no hn]
              congr 3
              simp_all [tbB, isTB] <;> omega
          · skip
            refine wN rfl ?_
            refine wY rfl (gE rfl ?_)
            refine wU (gE rfl ?_)
            refine wU (gE rfl ?_)
            refine wY rfl (gE rfl ?_)
            refine wY rfl (gE rfl ?_)
            refine wU (gE rfl ?_)
            refine wU (gE rfl ?_)
            refine wU (gE rfl ?_)
            refine wOps.done ?_
            refine hK12 _ _ _ ?_
            clear hK12 K11
            refine WC.ret ?_
            have hn : ¬ (65 ≤ (c.toNat : Int) ∧ (c.toNat : Int) ≤ 90) := by simp_all <;> omega
            refine ⟨_, rfl, ?_, rfl⟩
            rw [lowB_no hn]
            congr 3
            simp_all [tbB, isTB] <;> omega
        · skip
          refine wN rfl ?_
          refine wN rfl ?_
          refine wZ rfl ?_
          refine wZ rfl ?_
          refine wN rfl ?_
          refine wU (gE rfl ?_)
          refine wU (gE rfl ?_)
          refine wN rfl ?_
          refine wN rfl ?_
          refine wU (gE rfl ?_)
          refine wU (gE rfl ?_)
          refine wU (gE rfl ?_)
          refine wOps.done ?_
          refine hK12 _ _ _ ?_
          clear hK12 K11
          refine WC.ret ?_
          have hn : ¬ (65 ≤ (c.toNat : Int) ∧ (c.toNat : Int) ≤ 90) := by simp_all <;> omega
          refine ⟨_, rfl, ?_, rfl⟩
          rw [lowB_no hn]
          congr 3
          simp_all [tbB, isTB] <;> omega
      · skip
        refine wN rfl ?_
        refine wU (gE rfl ?_)
        refine wU (gE rfl ?_)
        refine wY rfl (gE rfl ?_)
        refine wY rfl (gE rfl ?_)
        refine wY rfl (gE rfl ?_)
        refine wG rfl rfl rfl rfl (by decide) (fun c17 => ?_) (fun c17 => ?_)
        · skip
          refine gE rfl ?_
          refine wY rfl (gE rfl ?_)
          refine wY rfl (gE rfl ?_)
          refine wU (gE rfl ?_)
          refine wU (gE rfl ?_)
          refine wG rfl rfl rfl rfl (by decide) (fun c18 => ?_) (fun c18 => ?_)
          · skip
            refine gE rfl ?_
            refine wY rfl (gE rfl ?_)
            refine wU (gE rfl ?_)
            refine wU (gE rfl ?_)
            refine wU (gE rfl ?_)
            refine wOps.done ?_
            refine hK12 _ _ _ ?_
            clear hK12 K11
            refine WC.ret ?_
            have hn : ¬ (65 ≤ (c.toNat : Int) ∧ (c.toNat : Int) ≤ 90) := by simp_all <;> omega
            refine ⟨_, rfl, ?_, rfl⟩
            rw [lowB_no hn]
            congr 3
            simp_all [tbB, isTB] <;> omega
          · skip
            refine wN rfl ?_
            refine wU (gE rfl ?_)
            refine wU (gE rfl ?_)
            refine wU (gE rfl ?_)
            refine wOps.done ?_
            refine hK12 _ _ _ ?_
            clear hK12 K11
            refine WC.ret ?_
            have hn : ¬ (65 ≤ (c.toNat : Int) ∧ (c.toNat : Int) ≤ 90) := by simp_all <;> omega
            refine ⟨_, rfl, ?_, rfl⟩
            rw [lowB_no hn]
            congr 3
            simp_all [tbB, isTB] <;> omega
        · skip
          refine wN rfl ?_
          refine wY rfl (gE rfl ?_)
          refine wU (gE rfl ?_)
          refine wU (gE rfl ?_)
          refine wY rfl (gE rfl ?_)
          refine wY rfl (gE rfl ?_)
          refine wU (gE rfl ?_)
          refine wU (gE rfl ?_)
          refine wU (gE rfl ?_)
          refine wOps.done ?_
          refine hK12 _ _ _ ?_
          clear hK12 K11
          refine WC.ret ?_
          have hn : ¬ (65 ≤ (c.toNat : Int) ∧ (c.toNat : Int) ≤ 90) := by simp_all <;> omega
          refine ⟨_, rfl, ?_, rfl⟩
          rw [lowB_no hn]
          congr 3
          simp_all [tbB, isTB] <;> omega
  · skip
    refine wN rfl ?_
    refine wU (gE rfl ?_)
    refine wOps.done ?_
    refine hK6 _ _ _ ?_
    clear hK6 K5
    first | refine WC.cond (b := false) rfl (fun hh => by simp at hh) (fun _ => ?_) | refine WC.cond rfl (fun hh => by simp_all) (fun _ => ?_)
    refine WC.skip ?_
    refine hK4 _ _ _ ?_
    clear hK4 K3
    refine WC.seq_k fun K19 hK20 => ?_
    refine WC.region ?_
    refine wU (gE rfl ?_)
    refine wU (gE rfl ?_)
    refine wU (gE rfl ?_)
    refine wU (gE rfl ?_)
    refine wG rfl rfl rfl rfl (by decide) (fun c21 => ?_) (fun c21 => ?_)
    · skip
      refine gE rfl ?_
      refine wY rfl (gE rfl ?_)
      refine wU (gE rfl ?_)
      refine wU (gE rfl ?_)
      refine wG rfl rfl rfl rfl (by decide) (fun c22 => ?_) (fun c22 => ?_)
      · skip
        refine gE rfl ?_
        refine wY rfl (gE rfl ?_)
        refine wY rfl (gE rfl ?_)
        refine wG rfl rfl rfl rfl (by decide) (fun c23 => ?_) (fun c23 => ?_)
        · skip
          refine gE rfl ?_
          refine wY rfl (gE rfl ?_)
          refine wY rfl (gE rfl ?_)
          refine wU (gE rfl ?_)
          refine wU (gE rfl ?_)
          refine wG rfl rfl rfl rfl (by decide) (fun c24 => ?_) (fun c24 => ?_)
          · skip
            refine gE rfl ?_
            refine wY rfl (gE rfl ?_)
            refine wU (gE rfl ?_)
            refine wU (gE rfl ?_)
            refine wU (gE rfl ?_)
            refine wOps.done ?_
            refine hK20 _ _ _ ?_
            clear hK20 K19
            refine WC.ret ?_
            have hn : ¬ (65 ≤ (c.toNat : Int) ∧ (c.toNat : Int) ≤ 90) := by simp_all <;> omega
            refine ⟨_, rfl, ?_, rfl⟩
            rw [lowB_no hn]
            congr 3
            simp_all [tbB, isTB] <;> omega
          · skip
            refine wN rfl ?_
            refine wU (gE rfl ?_)
            refine wU (gE rfl ?_)
            refine wU (gE rfl ?_)
            refine wOps.done ?_
            refine hK20 _ _ _ ?_
            clear hK20 K19
            refine WC.ret ?_
            have hn : ¬ (65 ≤ (c.toNat : Int) ∧ (c.toNat : Int) ≤ 90) := by simp_all <;> omega
            refine ⟨_, rfl, ?_, rfl⟩
            rw [lowB_no hn]
            congr 3
            simp_all [tbB, isTB] <;> omega
        · skip
          refine wN rfl ?_
          refine wY rfl (gE rfl ?_)
          refine wU (gE rfl ?_)
          refine wU (gE rfl ?_)
          refine wY rfl (gE rfl ?_)
          refine wY rfl (gE rfl ?_)
          refine wU (gE rfl ?_)
          refine wU (gE rfl ?_)
          refine wU (gE rfl ?_)
          refine wOps.done ?_
          refine hK20 _ _ _ ?_
          clear hK20 K19
          refine WC.ret ?_
          have hn : ¬ (65 ≤ (c.toNat : Int) ∧ (c.toNat : Int) ≤ 90) := by simp_all <;> omega
          refine ⟨_, rfl, ?_, rfl⟩
          rw [lowB_no hn]
          congr 3
          simp_all [tbB, isTB] <;> omega
      · skip
        refine wN rfl ?_
        refine wN rfl ?_
        refine wZ rfl ?_
        refine wZ rfl ?_
        refine wN rfl ?_
        refine wU (gE rfl ?_)
        refine wU (gE rfl ?_)
        refine wN rfl ?_
        refine wN rfl ?_
        refine wU (gE rfl ?_)
        refine wU (gE rfl ?_)
        refine wU (gE rfl ?_)
        refine wOps.done ?_
        refine hK20 _ _ _ ?_
        clear hK20 K19
        refine WC.ret ?_
        have hn : ¬ (65 ≤ (c.toNat : Int) ∧ (c.toNat : Int) ≤ 90) := by simp_all <;> omega
        refine ⟨_, rfl, ?_, rfl⟩
        rw [lowB_no hn]
        congr 3
        simp_all [tbB, isTB] <;> omega
    · skip
      refine wN rfl ?_
      refine wU (gE rfl ?_)
      refine wU (gE rfl ?_)
      refine wY rfl (gE rfl ?_)
      refine wY rfl (gE rfl ?_)
      refine wY rfl (gE rfl ?_)
      refine wG rfl rfl rfl rfl (by decide) (fun c25 => ?_) (fun c25 => ?_)
      · skip
        refine gE rfl ?_
        refine wY rfl (gE rfl ?_)
        refine wY rfl (gE rfl ?_)
        refine wU (gE rfl ?_)
        refine wU (gE rfl ?_)
        refine wG rfl rfl rfl rfl (by decide) (fun c26 => ?_) (fun c26 => ?_)
        · skip
          refine gE rfl ?_
          refine wY rfl (gE rfl ?_)
          refine wU (gE rfl ?_)
          refine wU (gE rfl ?_)
          refine wU (gE rfl ?_)
          refine wOps.done ?_
          refine hK20 _ _ _ ?_
          clear hK20 K19
          refine WC.ret ?_
          have hn : ¬ (65 ≤ (c.toNat : Int) ∧ (c.toNat : Int) ≤ 90) := by simp_all <;> omega
          refine ⟨_, rfl, ?_, rfl⟩
          rw [lowB_no hn]
          congr 3
          simp_all [tbB, isTB] <;> omega
        · skip
          refine wN rfl ?_
          refine wU (gE rfl ?_)
          refine wU (gE rfl ?_)
          refine wU (gE rfl ?_)
          refine wOps.done ?_
          refine hK20 _ _ _ ?_
          clear hK20 K19
          refine WC.ret ?_
          have hn : ¬ (65 ≤ (c.toNat : Int) ∧ (c.toNat : Int) ≤ 90) := by simp_all <;> omega
          refine ⟨_, rfl, ?_, rfl⟩
          rw [lowB_no hn]
          congr 3
          simp_all [tbB, isTB] <;> omega
      · skip
        refine wN rfl ?_
        refine wY rfl (gE rfl ?_)
        refine wU (gE rfl ?_)
        refine wU (gE rfl ?_)
        refine wY rfl (gE rfl ?_)
        refine wY rfl (gE rfl ?_)
        refine wU (gE rfl ?_)
        refine wU (gE rfl ?_)
        refine wU (gE rfl ?_)
        refine wOps.done ?_
        refine hK20 _ _ _ ?_
        clear hK20 K19
        refine WC.ret ?_
        have hn : ¬ (65 ≤ (c.toNat : Int) ∧ (c.toNat : Int) ≤ 90) := by simp_all <;> omega
        refine ⟨_, rfl, ?_, rfl⟩
        rw [lowB_no hn]
        congr 3
        simp_all [tbB, isTB] <;> omega
def insS (s : By) : List By → List By
  | [] => [s]
  | x :: r => if s < x then s :: x :: r else x :: insS s r
def withS (l : List By) (s : By) : List By := if l.contains s then l else insS s l
theorem insS_at {s : By} {l : List By} {i : Nat} (h : i < l.length) : insS s (l.drop i) = if s < l[i] then s :: l[i] :: l.drop (i + 1) else l[i] :: insS s (l.drop (i + 1)) := by
  rw [List.drop_eq_getElem_cons h]; rfl
theorem insS_length (s : By) : ∀ l : List By, (insS s l).length = l.length + 1
  | [] => rfl
  | x :: r => by
    simp only [insS]
    split
    · simp
    · simp [insS_length s r]
theorem gtr_lt {a b : By} (h : Op.bytesLess a b = false ∧ ¬ a = b) : b < a := lt_ne ((bl_no a b).1 h.1) fun e => h.2 e.symm
theorem gtr_no {a b : By} (h : Op.bytesLess a b = false → a = b) : ¬ b < a := fun hlt => by
  have h1 := h ((bl_no a b).2 (lt_le hlt))
  exact lt_irr (h1 ▸ hlt)
theorem withS_tri0 (l : List By) (s : By) (hl : l.length ≤ 1000000) : Tri Tryz.prog 37 [ssl l, .str s] [] fun v h' => (v = ssl l ∧ l.contains s = true) ∨ ∃ o hx, (o = none → insS s l = []) ∧ v = gsV o (insS s l).length ∧ h' = gsH 9 1 o (scs (insS s l)) ++ hx ∧ l.contains s = false := by
  unfold ssl
  refine Tri.of_wc Tryz.func37 rfl Tryz.results37 Tryz.ntmps37 (by simp) ?_
  refine WC.seq_k fun K1 hK2 => ?_
  refine WC.region ?_
  refine wU (gE rfl ?_)
  refine wOps.done ?_
  refine hK2 _ _ _ ?_
  clear hK2 K1
  refine WC.seq_k fun K3 hK4 => ?_
  refine WC.region ?_
  refine wU (gBuildSlice (cs := []) tslice25 tsz9 tzero9 rfl (by simp [evFill, putL, zcells, vcells]) (by decide) (by decide) fun p0 hp0 => ?_)
  refine wU (gE rfl ?_)
  refine wOps.done ?_
  refine hK4 _ _ _ ?_
  clear hK4 K3
  refine WC.seq_k fun K5 hK6 => ?_
  refine WC.region ?_
  refine wU (gE rfl ?_)
  refine wOps.done ?_
  refine hK6 _ _ _ ?_
  clear hK6 K5
  refine WC.seq_k fun K7 hK8 => ?_
  refine WC.seq_k fun K9 hK10 => ?_
  refine WC.region ?_
  refine wU (gE rfl ?_)
  refine wOps.done ?_
  refine hK10 _ _ _ ?_
  clear hK10 K9
  refine WC.block ?_
  refine WC.loopI (α := Nat × BS × List By × Bool) (fun a => [(0, .fslice (scs l) l.length), (1, .str s), (5, gsV a.2.1 a.2.2.1.length), (6, .bool a.2.2.2), (7, .int .i64 a.1)]) (fun a => gsH 9 1 a.2.1 (scs a.2.2.1)) (fun a => l.length - a.1) (fun a => a.1 ≤ l.length ∧ insS s l = a.2.2.1 ++ (if a.2.2.2 = true then l.drop a.1 else insS s (l.drop a.1)) ∧ a.2.2.1.length ≤ a.1 + a.2.2.2.toNat ∧ (a.2.1 = none → a.2.2.1 = []) ∧ s ∉ l.take a.1) (0, some (p0, 0), [], false) ?_ ?_ ?_ ?_
  · exact sub_cons rfl (sub_cons rfl (sub_cons rfl (sub_cons rfl (sub_cons rfl (sub_nil _)))))
  · exact Ent.refl _ _
  · exact ⟨by simp, by simp, by simp, by simp, by simp⟩
  rintro ⟨i, o, X, done⟩ ⟨hil, hX, hXl, hon, hnin⟩
  simp only at hil hX hXl hon hnin ⊢
  have hdn := Bool.toNat_le done
  refine WC.seq_k fun K11 hK12 => ?_
  refine WC.seq_k fun K13 hK14 => ?_
  refine WC.region ?_
  refine wU (gE rfl ?_)
  refine wU (gE rfl ?_)
  refine wU (gLen rfl rfl (by rw [lenFits, tslice25]; rfl) ?_)
  refine wU (gE rfl ?_)
  refine wOps.done ?_
  refine hK14 _ _ _ ?_
  clear hK14 K13
  refine WC.cond rfl (fun c15 => ?_) (fun c15 => ?_)
  · skip
    refine WC.skip ?_
    refine hK12 _ _ _ ?_
    clear hK12 K11
    refine WC.seq_k fun K16 hK17 => ?_
    refine WC.block ?_
    refine WC.seq_k fun K18 hK19 => ?_
    refine WC.seq_k fun K20 hK21 => ?_
    refine WC.region ?_
    refine wU (gE rfl ?_)
    refine wU (gE rfl ?_)
    have hi : i < l.length := by simpa using c15
    refine wU (gIdxF tslice25 tsz9 rfl rfl (by omega) (by omega) ?_)
    refine wU (gLoadF tagg9 rfl (scs_get hi) ?_)
    refine wU (gE rfl ?_)
    refine wU (gE rfl ?_)
    refine wOps.done ?_
    refine hK21 _ _ _ ?_
    clear hK21 K20
    refine WC.cond rfl (fun c22 => ?_) (fun c22 => ?_)
    · skip
      refine WC.seq_k fun K23 hK24 => ?_
      refine WC.region ?_
      refine wU (gE rfl ?_)
      refine wU (gE rfl ?_)
      refine wOps.done ?_
      refine hK24 _ _ _ ?_
      clear hK24 K23
      refine WC.ret ?_
      refine ⟨_, rfl, .inl ⟨rfl, ?_⟩⟩
      rw [List.contains_iff_mem]; have hx : l[i] = s := by simpa using c22
      exact hx ▸ List.getElem_mem hi
    · skip
      refine WC.skip ?_
      refine hK19 _ _ _ ?_
      clear hK19 K18
      refine WC.seq_cut (α := BS × List By × Bool) (fun a => [(0, .fslice (scs l) l.length), (1, .str s), (5, gsV a.1 a.2.1.length), (6, .bool a.2.2), (7, .int .i64 i)]) (fun a => gsH 9 1 a.1 (scs a.2.1)) (fun a => insS s l = a.2.1 ++ l[i] :: (if a.2.2 = true then l.drop (i + 1) else insS s (l.drop (i + 1))) ∧ a.2.1.length ≤ i + a.2.2.toNat ∧ (a.1 = none → a.2.1 = []) ∧ l[i] ≠ s) ?_ ?_
      · skip
        refine WC.seq_k fun K25 hK26 => ?_
        refine WC.region ?_
        refine wU (gE rfl ?_)
        refine wU (gE rfl ?_)
        refine wU (gE rfl ?_)
        refine wG rfl rfl rfl rfl (by decide) (fun c27 => ?_) (fun c27 => ?_)
        · skip
          refine gE rfl ?_
          refine wY rfl (gE rfl ?_)
          refine wY rfl (gIdxF tslice25 tsz9 rfl rfl (by omega) (by omega) ?_)
          refine wY rfl (gLoadF tagg9 rfl (scs_get hi) ?_)
          refine wY rfl (gE rfl ?_)
          refine wY rfl (gE rfl ?_)
          refine wU (gE rfl ?_)
          refine wOps.done ?_
          refine hK26 _ _ _ ?_
          clear hK26 K25
          refine WC.cond rfl (fun c28 => ?_) (fun c28 => ?_)
          · skip
            refine WC.seq_k fun K29 hK30 => ?_
            refine WC.region ?_
            refine wU (gE rfl ?_)
            refine wU (gE rfl ?_)
            refine wU (gBuildSlice (cs := [.str s]) tslice25 tsz9 tzero9 rfl (by simp [evFill, putL, zcells, vcells]) (by decide) (by decide) fun p3 hp3 => ?_)
            refine wU (gOp (OpS.appGs (s := o) (cs := scs (X)) (us := [.str s]) (hx := [(p3, .cells 9 [.str s] 1)]) (len := (X).length) (m := 1) (k := 1) (e := 9) ⟨rfl⟩ el25 app25 rfl rfl rfl (fun q N e => by subst e; simp [gsH] at hp3; simp; exact fun e => hp3 e.symm) (fun e => by rw [hon e]; exact ⟨rfl, rfl⟩) (by rw [scs_length]; omega) (by simp [evSrc, hget]) rfl (fun h => by simp at h) (by omega) fun o3 ho3 hno3 => ?_) rfl)
            have e1_3 : scs (X) ++ [.str s] = scs (X ++ [s]) := by simp [scs]
            have e2_3 : (X).length + 1 = (X ++ [s]).length := by simp
            rw [e1_3, e2_3]
            have hmo3 : o3 = none → X ++ [s] = [] := fun e => by have := (hno3 e).2; simp at this
            refine wU (gE rfl ?_)
            refine wOps.done ?_
            refine hK30 _ _ _ ?_
            clear hK30 K29
            refine WC.region ?_
            refine wU (gE rfl ?_)
            refine wOps.done ?_
            have hne : l[i] ≠ s := by simpa using c22
            have hgt : s < l[i] := gtr_lt (by simpa using c28)
            have hd : done = false := by simpa using c27
            exact ⟨(o3, X ++ [s], true), rfl, ⟨by rw [hX, hd, insS_at hi, if_pos hgt]; simp, by rw [hd] at hXl; simp at hXl ⊢; omega, hmo3, hne⟩, (Ent.sub (sub_cons rfl (sub_cons rfl (sub_cons rfl (sub_cons rfl (sub_cons rfl (sub_nil _))))))).trans (Ent.drop (List.sublist_append_left _ _))⟩
          · skip
            refine WC.skip ?_
            have hne : l[i] ≠ s := by simpa using c22
            have hgt : ¬ s < l[i] := gtr_no (by simpa using c28)
            have hd : done = false := by simpa using c27
            exact ⟨(o, X, false), rfl, ⟨by rw [hX, hd, if_neg (by simp), insS_at hi, if_neg hgt]; simp, by rw [hd] at hXl; simpa using hXl, hon, hne⟩, Ent.sub (sub_cons rfl (sub_cons rfl (sub_cons rfl (sub_cons (by rw [← hd]; rfl) (sub_cons rfl (sub_nil _))))))⟩
        · skip
          refine wN rfl ?_
          refine wN rfl ?_
          refine wN rfl ?_
          refine wN rfl ?_
          refine wN rfl ?_
          refine wU (gE rfl ?_)
          refine wOps.done ?_
          refine hK26 _ _ _ ?_
          clear hK26 K25
          first | refine WC.cond (b := false) rfl (fun hh => by simp at hh) (fun _ => ?_) | refine WC.cond rfl (fun hh => by simp_all) (fun _ => ?_)
          refine WC.skip ?_
          have hne : l[i] ≠ s := by simpa using c22
          have hd : done = true := by simpa using c27
          exact ⟨(o, X, true), rfl, ⟨by rw [hX, hd, if_pos rfl, if_pos rfl, List.drop_eq_getElem_cons hi], by rw [hd] at hXl; simpa using hXl, hon, hne⟩, Ent.sub (sub_cons rfl (sub_cons rfl (sub_cons rfl (sub_cons (by rw [← hd]; rfl) (sub_cons rfl (sub_nil _))))))⟩
      rintro ⟨o4, Y, dn⟩ ⟨hY1, hY2, hY3, hne⟩
      simp only at hY1 hY2 hY3 ⊢
      have hdn := Bool.toNat_le dn
      refine WC.region ?_
      refine wU (gE rfl ?_)
      refine wU (gE rfl ?_)
      refine wU (gE rfl ?_)
      refine wU (gIdxF tslice25 tsz9 rfl rfl (by omega) (by omega) ?_)
      refine wU (gLoadF tagg9 rfl (scs_get hi) ?_)
      refine wU (gBuildSlice (cs := [.str l[i]]) tslice25 tsz9 tzero9 rfl (by simp [evFill, putL, zcells, vcells]) (by decide) (by decide) fun p4 hp4 => ?_)
      refine wU (gOp (OpS.appGs (s := o4) (cs := scs (Y)) (us := [.str l[i]]) (hx := [(p4, .cells 9 [.str l[i]] 1)]) (len := (Y).length) (m := 1) (k := 1) (e := 9) ⟨rfl⟩ el25 app25 rfl rfl rfl (fun q N e => by subst e; simp [gsH] at hp4; simp; exact fun e => hp4 e.symm) (fun e => by rw [hY3 e]; exact ⟨rfl, rfl⟩) (by rw [scs_length]; omega) (by simp [evSrc, hget]) rfl (fun h => by simp at h) (by omega) fun o6 ho6 hno6 => ?_) rfl)
      have e1_4 : scs (Y) ++ [.str l[i]] = scs (Y ++ [l[i]]) := by simp [scs]
      have e2_4 : (Y).length + 1 = (Y ++ [l[i]]).length := by simp
      rw [e1_4, e2_4]
      have hmo6 : o6 = none → Y ++ [l[i]] = [] := fun e => by have := (hno6 e).2; simp at this
      refine wU (gE rfl ?_)
      refine wOps.done ?_
      refine hK17 _ _ _ ?_
      clear hK17 K16
      refine WC.region ?_
      refine wU (gE rfl ?_)
      refine wU (gE rfl ?_)
      refine wU (gE rfl ?_)
      refine wOps.done ?_
      exact ⟨(i + 1, o6, Y ++ [l[i]], dn), rfl, by simp only; omega, ⟨by simp only; omega, by rw [hY1]; simp, by simp only [List.length_append, List.length_singleton]; omega, hmo6, by rw [List.take_succ_eq_append_getElem hi]; simp only [List.mem_append, List.mem_singleton, not_or]; exact ⟨hnin, fun e => hne e.symm⟩⟩, (Ent.sub (sub_cons rfl (sub_cons rfl (sub_cons rfl (sub_cons rfl (sub_cons (int_fit (by omega) (by omega) (by omega)) (sub_nil _))))))).trans (Ent.drop (List.sublist_append_left _ _))⟩
  · skip
    refine WC.exit ?_
    refine hK8 _ _ _ ?_
    clear hK12 K11 hK8 K7
    refine WC.seq_k fun K31 hK32 => ?_
    refine WC.seq_k fun K33 hK34 => ?_
    refine WC.region ?_
    refine wU (gE rfl ?_)
    refine wU (gE rfl ?_)
    refine wOps.done ?_
    refine hK34 _ _ _ ?_
    clear hK34 K33
    refine WC.cond rfl (fun c35 => ?_) (fun c35 => ?_)
    · skip
      refine WC.region ?_
      refine wU (gE rfl ?_)
      refine wU (gE rfl ?_)
      refine wU (gBuildSlice (cs := [.str s]) tslice25 tsz9 tzero9 rfl (by simp [evFill, putL, zcells, vcells]) (by decide) (by decide) fun p5 hp5 => ?_)
      refine wU (gOp (OpS.appGs (s := o) (cs := scs (X)) (us := [.str s]) (hx := [(p5, .cells 9 [.str s] 1)]) (len := (X).length) (m := 1) (k := 1) (e := 9) ⟨rfl⟩ el25 app25 rfl rfl rfl (fun q N e => by subst e; simp [gsH] at hp5; simp; exact fun e => hp5 e.symm) (fun e => by rw [hon e]; exact ⟨rfl, rfl⟩) (by rw [scs_length]; omega) (by simp [evSrc, hget]) rfl (fun h => by simp at h) (by omega) fun o5 ho5 hno5 => ?_) rfl)
      have e1_5 : scs (X) ++ [.str s] = scs (X ++ [s]) := by simp [scs]
      have e2_5 : (X).length + 1 = (X ++ [s]).length := by simp
      rw [e1_5, e2_5]
      have hmo5 : o5 = none → X ++ [s] = [] := fun e => by have := (hno5 e).2; simp at this
      refine wU (gE rfl ?_)
      refine wOps.done ?_
      refine hK32 _ _ _ ?_
      clear hK32 K31
      refine WC.seq_k fun K36 hK37 => ?_
      refine WC.region ?_
      refine wU (gE rfl ?_)
      refine wU (gE rfl ?_)
      refine wOps.done ?_
      refine hK37 _ _ _ ?_
      clear hK37 K36
      refine WC.ret ?_
      have he : i = l.length := by have := of_decide_eq_false c15; omega
      have hc : l.contains s = false := by rw [he, List.take_length] at hnin; simpa using hnin
      have hd : done = false := by simpa using c35
      rw [hd, he, List.drop_length] at hX
      have hX2 : X ++ [s] = insS s l := by simpa [insS] using hX.symm
      rw [hX2]
      exact ⟨_, rfl, .inr ⟨o5, _, hX2 ▸ hmo5, rfl, rfl, hc⟩⟩
    · skip
      refine WC.skip ?_
      refine hK32 _ _ _ ?_
      clear hK32 K31
      refine WC.seq_k fun K38 hK39 => ?_
      refine WC.region ?_
      refine wU (gE rfl ?_)
      refine wU (gE rfl ?_)
      refine wOps.done ?_
      refine hK39 _ _ _ ?_
      clear hK39 K38
      refine WC.ret ?_
      have he : i = l.length := by have := of_decide_eq_false c15; omega
      have hc : l.contains s = false := by rw [he, List.take_length] at hnin; simpa using hnin
      have hd : done = true := by simpa using c35
      rw [hd, he, List.drop_length] at hX
      have hX2 : X = insS s l := by simpa using hX.symm
      rw [hX2]
      exact ⟨_, rfl, .inr ⟨o, [], hX2 ▸ hon, rfl, by simp, hc⟩⟩
theorem withS_tri (l : List By) (s : By) (hl : l.length ≤ 1000000) : PTri Tryz.prog 37 [ssl l, .str s] (ssl (withS l s)) := by
  refine Tri.vent (withS_tri0 l s hl) ?_
  rintro v h' (⟨rfl, hc⟩ | ⟨o, hx, ho, rfl, rfl, hc⟩)
  · exact ⟨_, _, .drop (List.nil_sublist _) (.refl _ _), by unfold withS; rw [if_pos hc], rfl⟩
  · refine ⟨_, _, .drop (List.sublist_append_left _ _) (?_ : VEnt _ _ (ssl (insS s l)) []), by unfold withS; rw [hc]; simp, rfl⟩
    have := VEnt.gs (e := 9) (k := 1) (s := o) (cs := scs (insS s l)) (rest := []) (len := (insS s l).length) (fun e => by have := congrArg List.length (ho e); rw [insS_length] at this; simp at this) (fun h => by rw [insS_length] at h; omega)
    simpa [ssl] using this
end Go.Proofs.YtmohgegpcfkooaaGreatDoor.W
end

section
namespace Go.Proofs.YtmohgegpcfkooaaGreatDoor.W
open Go.Fw
variable [Gl]
set_option maxRecDepth 20000
theorem insS_mem (s : By) : ∀ (l : List By) (x : By), x ∈ insS s l ↔ x = s ∨ x ∈ l
  | [], x => by simp [insS]
  | y :: r, x => by
    simp only [insS]
    split
    · simp
    · simp only [List.mem_cons, insS_mem s r x]
      constructor
      · rintro (h | h | h) <;> simp [h]
      · rintro (h | h | h) <;> simp [h]
theorem insS_asc (s : By) : ∀ l : List By, l.Pairwise (· < ·) → s ∉ l → (insS s l).Pairwise (· < ·)
  | [], _, _ => by simp [insS]
  | y :: r, h, hn => by
    simp only [insS]
    have h' := List.pairwise_cons.1 h
    split
    · rename_i hlt
      refine List.pairwise_cons.2 ⟨fun z hz => ?_, h⟩
      rcases List.mem_cons.1 hz with rfl | hz
      · exact hlt
      · exact lt_tr hlt (h'.1 z hz)
    · rename_i hlt
      simp only [List.mem_cons, not_or] at hn
      refine List.pairwise_cons.2 ⟨fun z hz => ?_, insS_asc s r h'.2 hn.2⟩
      rcases (insS_mem s r z).1 hz with rfl | hz
      · exact lt_ne (by simpa using hlt) fun e => hn.1 e.symm
      · exact h'.1 z hz
theorem withS_mem (l : List By) (s x : By) : x ∈ withS l s ↔ x = s ∨ x ∈ l := by
  unfold withS
  split
  · rename_i h
    rw [List.contains_iff_mem] at h
    constructor
    · exact .inr
    · rintro (rfl | h')
      · exact h
      · exact h'
  · exact insS_mem s l x
theorem withS_asc {l : List By} (h : l.Pairwise (· < ·)) (s : By) : (withS l s).Pairwise (· < ·) := by
  unfold withS
  split
  · exact h
  · rename_i hc
    exact insS_asc s l h (by simpa using hc)
theorem foldW_asc : ∀ (ws l : List By), l.Pairwise (· < ·) → (ws.foldl withS l).Pairwise (· < ·)
  | [], l, h => h
  | w :: ws, l, h => foldW_asc ws _ (withS_asc h w)
theorem foldW_mem : ∀ (ws l : List By) (x : By), x ∈ ws.foldl withS l ↔ x ∈ ws ∨ x ∈ l
  | [], l, x => by simp
  | w :: ws, l, x => by
    rw [List.foldl_cons, foldW_mem ws _ x, withS_mem, List.mem_cons]
    constructor
    · rintro (h | h | h) <;> simp [h]
    · rintro ((h | h) | h) <;> simp [h]
theorem foldW_terms (s : By) : (rawTerms s).foldl withS [] = termsL s :=
  asc_eq _ _ (foldW_asc _ _ .nil) (terms_sorted s) fun x => by rw [foldW_mem, terms_mem]; simp
theorem withS_length (l : List By) (s : By) : (withS l s).length ≤ l.length + 1 := by
  unfold withS
  split
  · omega
  · rw [insS_length]; omega
def gT (w rest : By) (acc : List By) : List By := ((wordsG tbB w rest).map tf).foldl withS acc
theorem gT_in {s w : By} {acc : List By} {i : Nat} (h : i < s.length) (ht : tbB s[i] = true) : gT w (s.drop i) acc = gT (w ++ [s[i]]) (s.drop (i + 1)) acc := by
  unfold gT
  rw [List.drop_eq_getElem_cons h, wordsG, if_pos ht]
theorem gT_out {s w : By} {acc : List By} {i : Nat} (h : i < s.length) (ht : tbB s[i] = false) : gT w (s.drop i) acc = gT [] (s.drop (i + 1)) (if w = [] then acc else withS acc (tf w)) := by
  unfold gT
  rw [List.drop_eq_getElem_cons h, wordsG, if_neg (by rw [ht]; simp), List.map_append, List.foldl_append]
  split <;> rfl
theorem gT_end {s w : By} {acc : List By} : gT w (s.drop s.length) acc = gT [] (s.drop (s.length + 1)) (if w = [] then acc else withS acc (tf w)) := by
  unfold gT
  rw [List.drop_length, List.drop_of_length_le (by omega)]
  simp only [wordsG]
  split <;> rfl
theorem tf_length (w : By) : (tf w).length = min 40 w.length := by simp [tf]
theorem tf_app {w : By} {c : UInt8} (h : w.length < 40) : tf (w ++ [c]) = tf w ++ [lowB c] := by
  unfold tf
  rw [List.take_of_length_le (by simp; omega), List.take_of_length_le (by omega)]
  simp
theorem tf_full {w : By} {c : UInt8} (h : ¬ w.length < 40) : tf (w ++ [c]) = tf w := by
  unfold tf
  rw [List.take_append_of_le_length (by omega)]
theorem tf_nil {w : By} (h : ¬ 0 < (tf w).length) : w = [] := by
  rw [tf_length] at h
  exact List.length_eq_zero_iff.1 (by omega)
theorem terms14_tri (s : By) (hs : s.length ≤ 900000) : PTri Tryz.prog 65 [.str s] (ssl (termsL s)) := by
  rw [← foldW_terms]
  refine PTri.any (Tri.of_wc Tryz.func65 rfl Tryz.results65 Tryz.ntmps65 (by simp) ?_)
  refine WC.seq_k fun K1 hK2 => ?_
  refine WC.region ?_
  refine wU (gE rfl ?_)
  refine wOps.done ?_
  refine hK2 _ _ _ ?_
  clear hK2 K1
  refine WC.seq_k fun K3 hK4 => ?_
  refine WC.region ?_
  refine wU (gBuildSlice (cs := []) tslice25 tsz9 tzero9 rfl (by simp [evFill, putL, zcells, vcells]) (by decide) (by decide) fun p0 hp0 => ?_)
  refine wU (gE rfl ?_)
  refine wOps.done ?_
  refine hK4 _ _ _ ?_
  clear hK4 K3
  refine WC.seq_k fun K5 hK6 => ?_
  refine WC.ent (Ent.gs (e := 9) (k := 1) (s := some (p0, 0)) (cs := []) (rest := []) (len := 0) (r := [(0, .str s)]) 3 rfl (fun e => by simp at e) (fun _ => rfl) (fun b ws => le_cons rfl (VLe.refl _) (le_nil _)) (le_cons rfl (VLe.refl _) (le_nil _))) ?_
  refine WC.region ?_
  refine wU (gBuildSlice (cs := []) tslice102 tsz5 tzero5 rfl (by simp [evFill, putL, zcells, vcells]) (by decide) (by decide) fun p1 hp1 => ?_)
  refine wU (gE rfl ?_)
  refine wOps.done ?_
  refine hK6 _ _ _ ?_
  clear hK6 K5
  refine WC.seq_k fun K7 hK8 => ?_
  refine WC.seq_k fun K9 hK10 => ?_
  refine WC.region ?_
  refine wU (gE rfl ?_)
  refine wOps.done ?_
  refine hK10 _ _ _ ?_
  clear hK10 K9
  refine WC.block ?_
  refine WC.loopI (α := Nat × By × List By × BS) (fun a => [(0, .str s), (3, ssl a.2.2.1), (4, bsV a.2.2.2 (tf a.2.1)), (5, .int .i64 a.1)]) (fun a => bsH 5 a.2.2.2 (tf a.2.1)) (fun a => s.length + 1 - a.1) (fun a => a.1 ≤ s.length + 1 ∧ a.2.2.1.length ≤ a.1 ∧ (a.2.2.2 = none → tf a.2.1 = []) ∧ gT a.2.1 (s.drop a.1) a.2.2.1 = gT [] s [] ∧ (a.1 = s.length + 1 → a.2.1 = [])) (0, [], [], some (p1, 0)) ?_ ?_ ?_ ?_
  · exact sub_cons rfl (sub_cons rfl (sub_cons rfl (sub_cons rfl (sub_nil _))))
  · exact Ent.refl _ _
  · exact ⟨by simp, by simp, by simp, by simp, by simp⟩
  rintro ⟨i, w, acc, o⟩ ⟨his, hal, ho, hG, hlast⟩
  simp only at his hal ho hG hlast ⊢
  refine WC.seq_k fun K11 hK12 => ?_
  refine WC.seq_k fun K13 hK14 => ?_
  refine WC.region ?_
  refine wU (gE rfl ?_)
  refine wU (gE rfl ?_)
  refine wU (gLen rfl rfl tisstr9 ?_)
  refine wU (gE rfl ?_)
  refine wOps.done ?_
  refine hK14 _ _ _ ?_
  clear hK14 K13
  refine WC.cond rfl (fun c15 => ?_) (fun c15 => ?_)
  · skip
    refine WC.skip ?_
    refine hK12 _ _ _ ?_
    clear hK12 K11
    refine WC.seq_k fun K16 hK17 => ?_
    refine WC.block ?_
    refine WC.seq_k fun K18 hK19 => ?_
    refine WC.region ?_
    refine wU (gE rfl ?_)
    refine wU (gE rfl ?_)
    refine wOps.done ?_
    refine hK19 _ _ _ ?_
    clear hK19 K18
    refine WC.seq_k fun K20 hK21 => ?_
    refine WC.seq_k fun K22 hK23 => ?_
    refine WC.region ?_
    refine wU (gE rfl ?_)
    refine wU (gE rfl ?_)
    refine wU (gLen rfl rfl tisstr9 ?_)
    refine wU (gE rfl ?_)
    refine wOps.done ?_
    refine hK23 _ _ _ ?_
    clear hK23 K22
    refine WC.cond rfl (fun c24 => ?_) (fun c24 => ?_)
    · skip
      refine WC.region ?_
      refine wU (gE rfl ?_)
      refine wU (gE rfl ?_)
      have hi : i < s.length := by simpa using c24
      refine wU (gIdxStr tisstr9 rfl rfl (by omega) (str_at hi) ?_)
      refine wU (gPure rfl isGo64 (letter2_tri s[i]) ?_)
      refine wU (gE rfl ?_)
      refine wU (gE rfl ?_)
      refine wU (gE rfl ?_)
      refine wU (gE rfl ?_)
      refine wU (gE rfl ?_)
      refine wOps.done ?_
      refine hK21 _ _ _ ?_
      clear hK21 K20
      refine WC.seq_k fun K25 hK26 => ?_
      refine WC.seq_k fun K27 hK28 => ?_
      refine WC.region ?_
      refine wU (gE rfl ?_)
      refine wU (gE rfl ?_)
      refine wG rfl rfl rfl rfl (by decide) (fun c29 => ?_) (fun c29 => ?_)
      · skip
        refine gE rfl ?_
        refine wY rfl (gLen rfl (evLen_bs ho) (lenFits_bs tslice102) ?_)
        refine wY rfl (gE rfl ?_)
        refine wU (gE rfl ?_)
        refine wOps.done ?_
        refine hK28 _ _ _ ?_
        clear hK28 K27
        refine WC.cond rfl (fun c30 => ?_) (fun c30 => ?_)
        · skip
          refine WC.region ?_
          refine wU (gE rfl ?_)
          refine wU (gE rfl ?_)
          refine wU (gBuildSlice (cs := [.int .u8 (lowB s[i]).toNat]) tslice102 tsz5 tzero5 rfl (by simp [evFill, putL, zcells, vcells]) (by decide) (by decide) fun b31 hb31 => ?_)
          have hw40 : w.length < 40 := by have := of_decide_eq_true c30; rw [tf_length] at this; omega
          refine wU (gOp (OpS.appBs (s := o) (acc := tf w) (bs := [lowB s[i]]) (hx := [(b31, .cells 5 [.int .u8 (lowB s[i]).toNat] 1)]) ⟨rfl⟩ el102 appT102 rfl rfl rfl (fun q N e => by subst e; simp [bsH] at hb31; simp; exact fun e => hb31 e.symm) ho (by simp [evSrc, hget, byteCells]) (by have := tf_len w; simp only [List.length_cons, List.length_nil]; omega) fun o2 ho2 ho3 => ?_) rfl)
          rw [← tf_app hw40] at ho3 ⊢
          refine wU (gE rfl ?_)
          refine wOps.done ?_
          refine hK26 _ _ _ ?_
          clear hK26 K25
          refine WC.seq_k fun K32 hK33 => ?_
          skip
          refine WC.region ?_
          have ht : tbB s[i] = true := by simpa using c29
          refine wU (gE (v := .bool true) (congrArg (fun b => some (V.bool b)) ht) ?_)
          refine wU (gE rfl ?_)
          refine wU (gE rfl ?_)
          refine wN rfl ?_
          refine wN rfl ?_
          refine wN rfl ?_
          refine wU (gE rfl ?_)
          refine wOps.done ?_
          refine hK33 _ _ _ ?_
          clear hK33 K32
          first | refine WC.cond (b := false) rfl (fun hh => by simp at hh) (fun _ => ?_) | refine WC.cond rfl (fun hh => by simp_all) (fun _ => ?_)
          refine WC.skip ?_
          refine hK17 _ _ _ ?_
          clear hK17 K16
          refine WC.region ?_
          refine wU (gE rfl ?_)
          refine wU (gE rfl ?_)
          refine wU (gE rfl ?_)
          refine wOps.done ?_
          have ht : tbB s[i] = true := by simpa using c29
          exact ⟨(i + 1, w ++ [s[i]], acc, o2), rfl, by simp only; omega, ⟨by simp only; omega, by simp only; omega, ho3, by rw [← hG, gT_in hi ht], fun h => by simp only at h; omega⟩, (Ent.sub (sub_cons rfl (sub_cons rfl (sub_cons rfl (sub_cons (int_fit (by omega) (by omega) (by omega)) (sub_nil _)))))).trans (Ent.drop (List.sublist_append_left _ _))⟩
        · skip
          refine WC.skip ?_
          refine hK26 _ _ _ ?_
          clear hK26 K25
          refine WC.seq_k fun K34 hK35 => ?_
          skip
          refine WC.region ?_
          have ht : tbB s[i] = true := by simpa using c29
          refine wU (gE (v := .bool true) (congrArg (fun b => some (V.bool b)) ht) ?_)
          refine wU (gE rfl ?_)
          refine wU (gE rfl ?_)
          refine wN rfl ?_
          refine wN rfl ?_
          refine wN rfl ?_
          refine wU (gE rfl ?_)
          refine wOps.done ?_
          refine hK35 _ _ _ ?_
          clear hK35 K34
          first | refine WC.cond (b := false) rfl (fun hh => by simp at hh) (fun _ => ?_) | refine WC.cond rfl (fun hh => by simp_all) (fun _ => ?_)
          refine WC.skip ?_
          refine hK17 _ _ _ ?_
          clear hK17 K16
          refine WC.region ?_
          refine wU (gE rfl ?_)
          refine wU (gE rfl ?_)
          refine wU (gE rfl ?_)
          refine wOps.done ?_
          have ht : tbB s[i] = true := by simpa using c29
          have hw40 : ¬ w.length < 40 := by have := of_decide_eq_false c30; rw [tf_length] at this; omega
          have e4 := tf_full (c := s[i]) hw40
          refine ⟨(i + 1, w ++ [s[i]], acc, o), rfl, by simp only; omega, ⟨by simp only; omega, by simp only; omega, by rw [tf_full hw40]; exact ho, by rw [← hG, gT_in hi ht], fun h => by simp only at h; omega⟩, ?_⟩
          simp only
          rw [e4]
          exact Ent.sub (sub_cons rfl (sub_cons rfl (sub_cons rfl (sub_cons (int_fit (by omega) (by omega) (by omega)) (sub_nil _)))))
      · skip
        refine wN rfl ?_
        refine wN rfl ?_
        refine wU (gE rfl ?_)
        refine wOps.done ?_
        refine hK28 _ _ _ ?_
        clear hK28 K27
        first | refine WC.cond (b := false) rfl (fun hh => by simp at hh) (fun _ => ?_) | refine WC.cond rfl (fun hh => by simp_all) (fun _ => ?_)
        refine WC.skip ?_
        refine hK26 _ _ _ ?_
        clear hK26 K25
        refine WC.seq_k fun K36 hK37 => ?_
        skip
        refine WC.region ?_
        have ht : tbB s[i] = false := by simpa using c29
        refine wU (gE (v := .bool false) (congrArg (fun b => some (V.bool b)) ht) ?_)
        refine wU (gE rfl ?_)
        refine wU (gE rfl ?_)
        refine wY rfl (gE rfl ?_)
        refine wY rfl (gLen rfl (evLen_bs ho) (lenFits_bs tslice102) ?_)
        refine wY rfl (gE rfl ?_)
        refine wU (gE rfl ?_)
        refine wOps.done ?_
        refine hK37 _ _ _ ?_
        clear hK37 K36
        refine WC.cond rfl (fun c38 => ?_) (fun c38 => ?_)
        · skip
          refine WC.seq_k fun K39 hK40 => ?_
          refine WC.region ?_
          refine wU (gE rfl ?_)
          refine wU (gE rfl ?_)
          refine wU (gOfBs (s := o) (acc := tf w) (hx := []) tslice102 tint5 tisstr9 rfl rfl (fun _ _ _ => by simp) ho ?_)
          refine wU (gPure rfl isGo37 (withS_tri acc (tf w) (by omega)) ?_)
          refine wU (gE rfl ?_)
          refine wOps.done ?_
          refine hK40 _ _ _ ?_
          clear hK40 K39
          refine WC.region ?_
          refine wU (gBuildSlice (cs := []) tslice102 tsz5 tzero5 rfl (by simp [evFill, putL, zcells, vcells]) (by decide) (by decide) fun p2 hp2 => ?_)
          refine wU (gE rfl ?_)
          refine wOps.done ?_
          refine hK17 _ _ _ ?_
          clear hK17 K16
          refine WC.region ?_
          refine wU (gE rfl ?_)
          refine wU (gE rfl ?_)
          refine wU (gE rfl ?_)
          refine wOps.done ?_
          have ht : tbB s[i] = false := by simpa using c29
          have hw : w ≠ [] := by rintro rfl; simp [tf] at c38
          have hl := withS_length acc (tf w)
          exact ⟨(i + 1, [], withS acc (tf w), some (p2, 0)), rfl, by simp only; omega, ⟨by simp only; omega, by simp only; omega, fun h => by simp at h, by rw [← hG, gT_out hi ht, if_neg hw], fun h => rfl⟩, (Ent.sub (sub_cons rfl (sub_cons rfl (sub_cons rfl (sub_cons (int_fit (by omega) (by omega) (by omega)) (sub_nil _)))))).trans (Ent.drop (.cons_cons _ (List.nil_sublist _)))⟩
        · skip
          refine WC.skip ?_
          refine hK17 _ _ _ ?_
          clear hK17 K16
          refine WC.region ?_
          refine wU (gE rfl ?_)
          refine wU (gE rfl ?_)
          refine wU (gE rfl ?_)
          refine wOps.done ?_
          have ht : tbB s[i] = false := by simpa using c29
          have hw : w = [] := tf_nil (by simpa using c38)
          subst hw
          exact ⟨(i + 1, [], acc, o), rfl, by simp only; omega, ⟨by simp only; omega, by simp only; omega, ho, by rw [← hG, gT_out hi ht, if_pos rfl], fun h => rfl⟩, Ent.sub (sub_cons rfl (sub_cons rfl (sub_cons rfl (sub_cons (int_fit (by omega) (by omega) (by omega)) (sub_nil _)))))⟩
    · skip
      refine WC.skip ?_
      refine hK21 _ _ _ ?_
      clear hK21 K20
      refine WC.seq_k fun K41 hK42 => ?_
      refine WC.seq_k fun K43 hK44 => ?_
      refine WC.region ?_
      refine wU (gE rfl ?_)
      refine wU (gE rfl ?_)
      refine wN rfl ?_
      refine wN rfl ?_
      refine wN rfl ?_
      refine wU (gE rfl ?_)
      refine wOps.done ?_
      refine hK44 _ _ _ ?_
      clear hK44 K43
      first | refine WC.cond (b := false) rfl (fun hh => by simp at hh) (fun _ => ?_) | refine WC.cond rfl (fun hh => by simp_all) (fun _ => ?_)
      refine WC.skip ?_
      refine hK42 _ _ _ ?_
      clear hK42 K41
      refine WC.seq_k fun K45 hK46 => ?_
      skip
      refine WC.region ?_
      refine wU (gE rfl ?_)
      refine wU (gE rfl ?_)
      refine wU (gE rfl ?_)
      refine wY rfl (gE rfl ?_)
      refine wY rfl (gLen rfl (evLen_bs ho) (lenFits_bs tslice102) ?_)
      refine wY rfl (gE rfl ?_)
      refine wU (gE rfl ?_)
      refine wOps.done ?_
      refine hK46 _ _ _ ?_
      clear hK46 K45
      refine WC.cond rfl (fun c47 => ?_) (fun c47 => ?_)
      · skip
        refine WC.seq_k fun K48 hK49 => ?_
        refine WC.region ?_
        refine wU (gE rfl ?_)
        refine wU (gE rfl ?_)
        refine wU (gOfBs (s := o) (acc := tf w) (hx := []) tslice102 tint5 tisstr9 rfl rfl (fun _ _ _ => by simp) ho ?_)
        refine wU (gPure rfl isGo37 (withS_tri acc (tf w) (by omega)) ?_)
        refine wU (gE rfl ?_)
        refine wOps.done ?_
        refine hK49 _ _ _ ?_
        clear hK49 K48
        refine WC.region ?_
        refine wU (gBuildSlice (cs := []) tslice102 tsz5 tzero5 rfl (by simp [evFill, putL, zcells, vcells]) (by decide) (by decide) fun p2 hp2 => ?_)
        refine wU (gE rfl ?_)
        refine wOps.done ?_
        refine hK17 _ _ _ ?_
        clear hK17 K16
        refine WC.region ?_
        refine wU (gE rfl ?_)
        refine wU (gE rfl ?_)
        refine wU (gE rfl ?_)
        refine wOps.done ?_
        have he : i = s.length := by have := of_decide_eq_false c24; have := of_decide_eq_true c15; omega
        have hw : w ≠ [] := by rintro rfl; simp [tf] at c47
        have hl := withS_length acc (tf w)
        exact ⟨(i + 1, [], withS acc (tf w), some (p2, 0)), rfl, by simp only; omega, ⟨by simp only; omega, by simp only; omega, fun h => by simp at h, by rw [← hG, he, gT_end, if_neg hw], fun h => rfl⟩, (Ent.sub (sub_cons rfl (sub_cons rfl (sub_cons rfl (sub_cons (int_fit (by omega) (by omega) (by omega)) (sub_nil _)))))).trans (Ent.drop (.cons_cons _ (List.nil_sublist _)))⟩
      · skip
        refine WC.skip ?_
        refine hK17 _ _ _ ?_
        clear hK17 K16
        refine WC.region ?_
        refine wU (gE rfl ?_)
        refine wU (gE rfl ?_)
        refine wU (gE rfl ?_)
        refine wOps.done ?_
        have he : i = s.length := by have := of_decide_eq_false c24; have := of_decide_eq_true c15; omega
        have hw : w = [] := tf_nil (by simpa using c47)
        subst hw
        exact ⟨(i + 1, [], acc, o), rfl, by simp only; omega, ⟨by simp only; omega, by simp only; omega, ho, by rw [← hG, he, gT_end, if_pos rfl], fun h => rfl⟩, Ent.sub (sub_cons rfl (sub_cons rfl (sub_cons rfl (sub_cons (int_fit (by omega) (by omega) (by omega)) (sub_nil _)))))⟩
  · skip
    refine WC.exit ?_
    refine hK8 _ _ _ ?_
    clear hK12 K11 hK8 K7
    refine WC.seq_k fun K50 hK51 => ?_
    refine WC.region ?_
    refine wU (gE rfl ?_)
    refine wU (gE rfl ?_)
    refine wOps.done ?_
    refine hK51 _ _ _ ?_
    clear hK51 K50
    refine WC.ret ?_
    have he : i = s.length + 1 := by have := of_decide_eq_false c15; omega
    have hw := hlast he
    subst hw
    rw [he] at hG
    unfold gT at hG
    rw [List.drop_of_length_le (by omega)] at hG
    exact ⟨_, rfl, by unfold rawTerms; exact congrArg ssl hG⟩
end Go.Proofs.YtmohgegpcfkooaaGreatDoor.W
end

section
namespace Go.Proofs.YtmohgegpcfkooaaGreatDoor
open Go.Fw
variable [Gl]
set_option maxRecDepth 20000
set_option maxHeartbeats 4000000
def endW (s : By) (i : Nat) : Nat := i + ((s.drop i).takeWhile W.tbB).length
def partsF : Nat → By → Nat → List By
  | 0, _, _ => []
  | f + 1, s, i => if i < s.length then
      (if endW s i = i then partsF f s (i + 1) else (if 0 < i ∧ endW s i < s.length then [(s.drop i).take (endW s i - i)] else []) ++ partsF f s (endW s i))
    else []
def partsL (s : By) : List By := partsF (s.length + 1) s 0
theorem tw_le {α : Type} (p : α → Bool) : ∀ l : List α, (l.takeWhile p).length ≤ l.length
  | [] => Nat.le_refl _
  | a :: r => by
    rw [List.takeWhile_cons]
    split
    · simp only [List.length_cons]; have := tw_le p r; omega
    · simp
theorem endW_le {s : By} {i : Nat} (h : i ≤ s.length) : endW s i ≤ s.length := by
  have := tw_le W.tbB (s.drop i)
  rw [List.length_drop] at this
  unfold endW; omega
theorem endW_ge (s : By) (i : Nat) : i ≤ endW s i := Nat.le_add_right _ _
theorem endW_in {s : By} {i : Nat} (h : i < s.length) (ht : W.tbB s[i] = true) : endW s i = endW s (i + 1) := by
  unfold endW
  rw [List.drop_eq_getElem_cons h, List.takeWhile_cons, if_pos ht]
  simp; omega
theorem endW_out {s : By} {i : Nat} (h : i < s.length) (ht : W.tbB s[i] = false) : endW s i = i := by
  unfold endW
  rw [List.drop_eq_getElem_cons h, List.takeWhile_cons, if_neg (by rw [ht]; simp)]
  rfl
theorem endW_len (s : By) : endW s s.length = s.length := by simp [endW]
theorem endW_ne {s : By} {i : Nat} (h : i < s.length) : endW s i = i ↔ W.tbB s[i] = false := by
  constructor
  · intro e
    cases ht : W.tbB s[i] with
    | false => rfl
    | true => rw [endW_in h ht] at e; have := endW_ge s (i + 1); omega
  · exact endW_out h
theorem endW_end : ∀ (n : Nat) {s : By} {i : Nat}, s.length - i ≤ n → (h : endW s i < s.length) → W.tbB (s[endW s i]) = false
  | 0, s, i, hn, h => by
    have := endW_ge s i
    omega
  | n + 1, s, i, hn, h => by
    have hge := endW_ge s i
    have hi : i < s.length := by omega
    cases ht : W.tbB s[i] with
    | false =>
      have e := endW_out hi ht
      have : s[endW s i] = s[i] := by congr 1
      rw [this]; exact ht
    | true =>
      have e := endW_in hi ht
      have := endW_end n (s := s) (i := i + 1) (by omega) (by rw [← e]; exact h)
      have h2 : s[endW s i] = s[endW s (i + 1)]'(by rw [← e]; exact h) := by congr 1
      rw [h2]; exact this
theorem partsF_f : ∀ (f g : Nat) {s : By} {i : Nat}, s.length - i < f → s.length - i < g → partsF f s i = partsF g s i
  | 0, g, s, i, h, _ => by omega
  | f + 1, 0, s, i, _, h => by omega
  | f + 1, g + 1, s, i, h, h' => by
    rw [partsF, partsF]
    by_cases hi : i < s.length
    · rw [if_pos hi, if_pos hi]
      by_cases he : endW s i = i
      · rw [if_pos he, if_pos he]
        exact partsF_f f g (by omega) (by omega)
      · rw [if_neg he, if_neg he]
        have hge := endW_ge s i
        rw [partsF_f f g (by omega) (by omega)]
    · rw [if_neg hi, if_neg hi]
def partsI (s : By) (i : Nat) : List By := partsF (s.length - i + 1) s i
theorem partsI_0 (s : By) : partsL s = partsI s 0 := rfl
theorem partsI_end {s : By} {i : Nat} (h : s.length ≤ i) : partsI s i = [] := by
  rw [partsI, partsF, if_neg (by omega)]
theorem partsI_out {s : By} {i : Nat} (h : i < s.length) (ht : W.tbB s[i] = false) : partsI s i = partsI s (i + 1) := by
  rw [partsI, partsF, if_pos h, if_pos (endW_out h ht)]
  exact partsF_f _ _ (by omega) (by omega)
theorem partsI_in {s : By} {i : Nat} (h : i < s.length) (ht : W.tbB s[i] = true) : partsI s i = (if 0 < i ∧ endW s i < s.length then [(s.drop i).take (endW s i - i)] else []) ++ partsI s (endW s i) := by
  have hne : endW s i ≠ i := fun e => by rw [(endW_ne h).1 e] at ht; cases ht
  have hge := endW_ge s i
  rw [partsI, partsF, if_pos h, if_neg hne]
  congr 1
  exact partsF_f _ _ (by omega) (by omega)
theorem partsI_skip {s : By} {i : Nat} (h : endW s i < s.length) : partsI s (endW s i) = partsI s (endW s i + 1) := partsI_out h (endW_end _ (Nat.le_refl _) h)
theorem partsI_ref {s : By} {i : Nat} (h : i < s.length) : partsI s i = (if i < endW s i ∧ 0 < i ∧ endW s i < s.length then [(s.drop i).take (endW s i - i)] else []) ++ partsI s (endW s i + 1) := by
  cases ht : W.tbB s[i] with
  | false =>
    have e := endW_out h ht
    rw [partsI_out h ht, e, if_neg (by omega)]; rfl
  | true =>
    have hne : endW s i ≠ i := fun e => by rw [(endW_ne h).1 e] at ht; cases ht
    have hge := endW_ge s i
    have hle := endW_le (Nat.le_of_lt h)
    rw [partsI_in h ht]
    by_cases hk : endW s i < s.length
    · rw [partsI_skip hk]
      congr 1
      by_cases h0 : 0 < i
      · rw [if_pos ⟨h0, hk⟩, if_pos ⟨by omega, h0, hk⟩]
      · rw [if_neg (by omega), if_neg (by omega)]
    · rw [if_neg (by omega), if_neg (by omega), partsI_end (by omega), partsI_end (by omega)]
theorem partsF_len : ∀ (f : Nat) (s : By) (i : Nat), (partsF f s i).length ≤ s.length - i
  | 0, s, i => by simp [partsF]
  | f + 1, s, i => by
    rw [partsF]
    split
    · rename_i hi
      split
      · have := partsF_len f s (i + 1); omega
      · rename_i he
        have hge := endW_ge s i
        have := partsF_len f s (endW s i)
        rw [List.length_append]
        have h2 : (if 0 < i ∧ endW s i < s.length then [(s.drop i).take (endW s i - i)] else []).length ≤ 1 := by split <;> simp
        omega
    · simp
theorem partsL_len (s : By) : (partsL s).length ≤ s.length := partsF_len _ s 0
theorem tw_all {α : Type} (p : α → Bool) : ∀ l : List α, (l.takeWhile p).all p = true
  | [] => rfl
  | a :: r => by
    rw [List.takeWhile_cons]
    by_cases h : p a = true
    · rw [if_pos h, List.all_cons, h, tw_all p r]; rfl
    · rw [if_neg h]; rfl
theorem tw_take {α : Type} (p : α → Bool) : ∀ l : List α, l.take (l.takeWhile p).length = l.takeWhile p
  | [] => rfl
  | a :: r => by
    rw [List.takeWhile_cons]
    by_cases h : p a = true
    · rw [if_pos h, List.length_cons, List.take_succ_cons, tw_take p r]
    · rw [if_neg h]; rfl
theorem word_at {s : By} {i : Nat} : (s.drop i).take (endW s i - i) = (s.drop i).takeWhile W.tbB := by
  have : endW s i - i = ((s.drop i).takeWhile W.tbB).length := by unfold endW; omega
  rw [this, tw_take]
theorem partsF_word : ∀ (f : Nat) (s : By) (i : Nat) (p : By), p ∈ partsF f s i → p ≠ [] ∧ p.all W.tbB = true
  | 0, s, i, p, h => by simp [partsF] at h
  | f + 1, s, i, p, h => by
    rw [partsF] at h
    split at h
    · rename_i hi
      split at h
      · exact partsF_word f s _ p h
      · rename_i he
        rcases List.mem_append.1 h with h | h
        · split at h
          · obtain rfl := List.mem_singleton.1 h
            rw [word_at]
            refine ⟨fun e => he ?_, tw_all _ _⟩
            unfold endW; rw [e]; rfl
          · simp at h
        · exact partsF_word f s _ p h
    · simp at h
theorem terms_word {p : By} (h0 : p ≠ []) (ha : p.all W.tbB = true) : W.termsL p = [W.tf p] := by
  refine W.asc_eq _ _ (W.cs_sorted _) (List.pairwise_singleton _ _) fun x => ?_
  unfold W.termsL
  rw [W.cs_mem, W.rawTerms, W.wordsG_all W.tbB p [] ha, List.nil_append, if_neg h0]
  simp
end Go.Proofs.YtmohgegpcfkooaaGreatDoor
end

section
namespace Go.Proofs.YtmohgegpcfkooaaGreatDoor
open Go.Fw
variable [Gl]
set_option maxRecDepth 20000
set_option maxHeartbeats 4000000
theorem lp_word (c : UInt8) : PTri Tryz.prog 60 [.int .u8 c.toNat] (.bool (W.tbB c)) := by
  refine PTri.of_safe Tryz.func60 rfl Tryz.results60 Tryz.ntmps60 rfl ?_
  refine go 99 rfl ?_
  repeat' (first | (refine Safe.gs rfl (fun a => ?_) (fun a => ?_) <;> refine go 99 rfl ?_) | (refine Safe.br rfl (fun a => ?_) (fun a => ?_) <;> refine go 99 rfl ?_))
  all_goals exact ⟨.inr rfl, trivial, .done (bIeq (by simp [W.tbB, W.isTB] at *; omega)) rfl⟩
theorem lp_whole (s : By) : PTri Tryz.prog 32 [.str s] (.clo 59 [.fptr [.str s] 0]) := by
  refine PTri.of_safe Tryz.func32 rfl Tryz.results32 Tryz.ntmps32 rfl ?_
  refine go 99 rfl ?_
  exact ⟨.inr rfl, trivial, .frz 0 rfl rfl (.done rfl rfl)⟩
def paX (s : By) : List (List V) := (partsL s).map fun p => [.str p]
theorem paX_len (s : By) : (paX s).length = (partsL s).length := by simp [paX]
theorem paX_ok (s : By) : ∀ a, a ∈ paX s → a.length = 1 ∧ a.all dry = true := fun a ha => by
  obtain ⟨p, _, rfl⟩ := List.mem_map.1 ha
  exact ⟨rfl, rfl⟩
theorem paX_at {s : By} {k : Nat} (hk : k < (paX s).length) : (paX s)[k] = [.str ((partsL s)[k]'(by simpa [paX] using hk))] := by simp [paX]
theorem drop_app {α : Type} {l : List α} {k : Nat} {x : α} {r : List α} (h : l.drop k = [x] ++ r) : ∃ hk : k < l.length, l[k] = x ∧ l.drop (k + 1) = r := by
  have hk : k < l.length := by
    have := congrArg List.length h
    simp at this; omega
  rw [List.drop_eq_getElem_cons hk] at h
  simp only [List.singleton_append, List.cons.injEq] at h
  exact ⟨hk, h.1, h.2⟩
theorem it_whole (s : By) (hs : s.length ≤ big) : IterC Tryz.prog 59 [.fptr [.str s] 0] (paX s) := by
  simp only [big] at hs
  intro lb J S hy h hJ
  refine Tri.of_safeY Tryz.func59 rfl Tryz.results59 Tryz.ntmps59 rfl ?_
  refine go 99 rfl ?_
  refine Safe.loopH (α := (Nat × Nat)) (fun a => [(0, .yield lb), (1, .fptr [.str s] 0), (3, nI a.1)]) (fun a => []) 0 (fun a => s.length - a.1) (fun a => a.1 ≤ s.length ∧ a.2 ≤ (partsL s).length ∧ (partsL s).drop a.2 = partsI s a.1) (fun a hf dl => J a.2 hf ∧ dl = []) (0, 0) (sgI 0) ⟨⟨fit rfl, fit rfl, fit rfl, trivial⟩, ⟨_, .refl _, List.nil_sublist _⟩, rfl⟩ ⟨Nat.zero_le _, Nat.zero_le _, partsI_0 s⟩ ⟨hJ, rfl⟩ ?_
  rintro ⟨i, k⟩ ⟨hi, hkl, hP⟩ hf dl ⟨hJi, rfl⟩
  dsimp only at hi hkl hP hJi
  refine go 99 rfl ?_
  refine Safe.ldF (rfl) rfl rfl rfl ?_
  refine go 99 rfl ?_
  refine Safe.br rfl (fun c => ?_) (fun c => ?_)
  · have hi : i < s.length := ltc c
    refine go 99 rfl ?_
    refine Safe.ldF (rfl) rfl rfl rfl ?_
    refine go 99 rfl ?_
    refine Safe.idxS hi rfl rfl rfl ?_
    refine go 99 rfl ?_
    refine Safe.call (lp_word s[i]) rfl rfl rfl ?_
    refine go 99 rfl ?_
    refine Safe.br rfl (fun d => ?_) (fun d => ?_)
    · have d1 : W.tbB s[i] = false := by simpa using d
      refine go 99 rfl ?_
      exact ⟨sgI 0, (i + 1, k), ⟨hi, hkl, by rw [hP, partsI_out hi d1]⟩, mlt hi, ⟨hJi, rfl⟩, ⟨fit rfl, fit rfl, fit (isucc (by omega)), trivial⟩, ⟨_, .refl _, List.nil_sublist _⟩, rfl⟩
    · have d1 : W.tbB s[i] = true := by simpa using d
      refine go 99 rfl ?_
      refine Safe.ccut1 (α := Unit) (fun _ => [(0, .yield lb), (1, .fptr [.str s] 0), (3, nI i), (4, nI (endW s i))]) (fun _ => []) 0 (fun _ => True) ?_ ?_
      · refine Safe.loop (α := Nat) (fun j => [(0, .yield lb), (1, .fptr [.str s] 0), (3, nI i), (4, nI j)]) (fun j => []) 0 (fun j => s.length - j) (fun j => i ≤ j ∧ j ≤ s.length ∧ endW s i = endW s j) i (sgI 0) ⟨⟨fit rfl, fit rfl, fit rfl, fit rfl, trivial⟩, ⟨_, .refl _, List.nil_sublist _⟩, rfl⟩ ⟨Nat.le_refl _, Nat.le_of_lt hi, rfl⟩ ?_
        rintro j ⟨hij, hj, hE⟩
        refine go 99 rfl ?_
        refine Safe.ldF (rfl) rfl rfl rfl ?_
        refine go 99 rfl ?_
        refine Safe.gs rfl (fun e => ?_) (fun e => ?_)
        · have hj : j < s.length := by have := of_decide_eq_true e; simp at this; omega
          refine go 99 rfl ?_
          refine Safe.ldF (rfl) rfl rfl rfl ?_
          refine go 99 rfl ?_
          refine Safe.idxS hj rfl rfl rfl ?_
          refine go 99 rfl ?_
          refine Safe.call (lp_word s[j]) rfl rfl rfl ?_
          refine go 99 rfl ?_
          refine Safe.br rfl (fun f => ?_) (fun f => ?_)
          · have f1 : W.tbB s[j] = true := f
            refine go 99 rfl ?_
            exact ⟨sgI 0, j + 1, ⟨by omega, hj, hE.trans (endW_in hj f1)⟩, mlt hj, rfl, rfl, ⟨fit rfl, fit rfl, fit rfl, fit (isucc (by omega)), trivial⟩, ⟨_, .refl _, List.nil_sublist _⟩, rfl⟩
          · have f1 : W.tbB s[j] = false := by simpa using f
            refine go 99 rfl ?_
            exact ⟨sgI 0, (), trivial, rfl, rfl, ⟨fit rfl, fit rfl, fit rfl, fit (congrArg (fun n : Nat => some (nI n)) (hE.trans (endW_out hj f1)).symm), trivial⟩, ⟨_, .refl _, List.nil_sublist _⟩, rfl⟩
        · have hj2 : j = s.length := Nat.le_antisymm hj (by have := of_decide_eq_false e; simp at this; omega)
          subst hj2
          refine go 99 rfl ?_
          exact ⟨sgI 0, (), trivial, rfl, rfl, ⟨fit rfl, fit rfl, fit rfl, fit (congrArg (fun n : Nat => some (nI n)) (hE.trans (endW_len s)).symm), trivial⟩, ⟨_, .refl _, List.nil_sublist _⟩, rfl⟩
      · rintro ⟨⟩ -
        have hge := endW_ge s i
        have hle := endW_le (Nat.le_of_lt hi)
        have hI := partsI_in hi d1
        have hne : endW s i ≠ i := fun e => by rw [(endW_ne hi).1 e] at d1; cases d1
        generalize endW s i = e at *
        refine go 99 rfl ?_
        refine Safe.gs rfl (fun c2 => ?_) (fun c2 => ?_)
        · have c2 : 0 < i := by have := of_decide_eq_true c2; omega
          refine go 99 rfl ?_
          refine Safe.ldF (rfl) rfl rfl rfl ?_
          refine go 99 rfl ?_
          refine Safe.gs rfl (fun c3 => ?_) (fun c3 => ?_)
          · have c3 : e < s.length := by have := of_decide_eq_true c3; simp at this; omega
            rw [if_pos ⟨c2, c3⟩, ← hP] at hI
            obtain ⟨hk, hk1, hk2⟩ := drop_app hI
            have hyk := hy k (by rw [paX_len]; exact hk) hf hJi
            rw [paX_at, hk1] at hyk
            refine go 99 rfl ?_
            refine Safe.ldF (rfl) rfl rfl rfl ?_
            refine go 99 rfl ?_
            refine Safe.slS i e hge (by omega) rfl rfl rfl rfl ?_
            refine go 99 rfl ?_
            refine Safe.yield (hyk) rfl rfl rfl (fun v hf1 hv => ?_)
            rcases hv with ⟨rfl, hJ2⟩ | ⟨rfl, hS⟩
            · refine ⟨rfl, ?_⟩
              refine go 99 rfl ?_
              refine Safe.brF rfl rfl ?_
              refine go 99 rfl ?_
              exact ⟨sgI 0, (e, k + 1), ⟨hle, hk, hk2⟩, (by dsimp only; omega), ⟨hJ2, rfl⟩, ⟨fit rfl, fit rfl, fit rfl, trivial⟩, ⟨_, .refl _, List.nil_sublist _⟩, rfl⟩
            · refine ⟨rfl, ?_⟩
              refine go 99 rfl ?_
              refine Safe.brT rfl rfl ?_
              refine go 99 rfl ?_
              exact ⟨.inr rfl, rfl, _, .done rfl rfl, .inr hS⟩
          · have c3 : ¬ e < s.length := by have := of_decide_eq_false c3; simp at this; omega
            rw [if_neg (by omega), List.nil_append] at hI
            refine go 99 rfl ?_
            exact ⟨sgI 0, (e, k), ⟨hle, hkl, by rw [hP, hI]⟩, (by dsimp only; omega), ⟨hJi, rfl⟩, ⟨fit rfl, fit rfl, fit rfl, trivial⟩, ⟨_, .refl _, List.nil_sublist _⟩, rfl⟩
        · have c2 : ¬ 0 < i := by have := of_decide_eq_false c2; omega
          rw [if_neg (by omega), List.nil_append] at hI
          refine go 99 rfl ?_
          exact ⟨sgI 0, (e, k), ⟨hle, hkl, by rw [hP, hI]⟩, (by dsimp only; omega), ⟨hJi, rfl⟩, ⟨fit rfl, fit rfl, fit rfl, trivial⟩, ⟨_, .refl _, List.nil_sublist _⟩, rfl⟩
  · have hi2 : i = s.length := Nat.le_antisymm hi (gec c)
    subst hi2
    rw [partsI_end (Nat.le_refl _)] at hP
    have hk : k = (partsL s).length := by
      have := congrArg List.length hP
      simp at this; omega
    rw [hk, ← paX_len] at hJi
    refine go 99 rfl ?_
    exact ⟨.inl rfl, rfl, _, .done rfl rfl, .inl hJi⟩
end Go.Proofs.YtmohgegpcfkooaaGreatDoor
end

section
namespace Go.Proofs.YtmohgegpcfkooaaGreatDoor
open Go.Fw
variable [Gl]
set_option maxRecDepth 20000
set_option maxHeartbeats 4000000
theorem cat_scs (l : List By) : cat strC l = W.scs l := by
  induction l with
  | nil => rfl
  | cons a r ih => rw [cat_cons, ih]; rfl
theorem ssl_slV (l : List By) : W.ssl l = slV strC l := by rw [slV, cat_scs]; rfl
theorem catStr_len (l : List By) : (cat strC l).length = l.length * 1 := cat_length (k := 1) (fun _ => rfl) l
theorem catStr_dry (l : List By) : (cat strC l).all dryV1 = true := by
  induction l with
  | nil => rfl
  | cons a r ih => rw [cat_cons, List.all_append, ih]; rfl
theorem catStr_d (l : List By) : (cat strC l).all dry = true := dryL1_dry (catStr_dry l)
theorem catStr_app (l : List By) (s : By) : cat strC l ++ strC s = cat strC (l ++ [s]) := by rw [cat_append]; simp [cat]
theorem subGs {sg : Sg} {e : TypeId} {kk k j : Nat} {l : List By} {G : Option Nat} (h : sgF sg k = some j) : (relH sg (gH e kk k (cat strC l) G)).Sublist (gH e kk j (cat strC l) G) := by
  cases G with
  | none => exact List.Sublist.refl _
  | some N => exact subK h (renO_dry (catStr_d l)) subN
theorem sl_sort (ss : List By) (N : Nat) (hN : ss.length ≤ N) (hl : ss.length < 4611686018427387904) : TriL Tryz.prog 33 [.slice 0 0 ss.length N] [(0, .cells 9 (cat strC ss) (N * 1))] 1 (fun v h nx => v = .tup [] ∧ h = [(0, .cells 9 (cat strC (W.srt ss)) (N * 1))] ∧ nx = 1) := by
  intro ρ hg
  obtain ⟨c, hc⟩ := Option.isSome_iff_exists.1 (hg.keys (0, .cells 9 (cat strC ss) (N * 1)) (by simp))
  have e1 : renL ρ [.slice 0 0 ss.length N] = [.slice c 0 ss.length N] := by simp only [renL, renV, hc]
  have e2 : renH ρ [(0, .cells 9 (cat strC ss) (N * 1))] = [(c, .cells 9 (W.scs ss ++ []) (N * 1))] := by
    show [(ky ρ 0, renO ρ (.cells 9 (cat strC ss) (N * 1)))] = _
    rw [renO_dry (catStr_d _), ky_eq hc, cat_scs, List.append_nil]
  rw [e1, e2]
  refine (W.sort_tri (T := 9) (rest := []) (nn := N * 1) hl hN).mono ?_
  rintro v h' ⟨rfl, rfl⟩
  refine ⟨ρ, .tup [], [(0, .cells 9 (cat strC (W.srt ss)) (N * 1))], 1, agr.refl _ _, ⟨hg.fresh, fun p hp => by simp at hp; subst hp; rw [hc]; rfl, Nat.le_refl _⟩, rfl, ?_, rfl, rfl, rfl⟩
  show _ = [(ky ρ 0, renO ρ (.cells 9 (cat strC (W.srt ss)) (N * 1)))]
  rw [renO_dry (catStr_d _), ky_eq hc, cat_scs, List.append_nil]
theorem cpt_le (l : List By) : (W.cpt l).length ≤ l.length := Lib.compact_length_le l
def padC (ss : List By) : List By := W.cpt ss ++ List.replicate (ss.length - (W.cpt ss).length) []
theorem sl_compact (ss : List By) (N : Nat) (hN : ss.length ≤ N) (hl : ss.length < 4611686018427387904) : TriL Tryz.prog 34 [.slice 0 0 ss.length N] [(0, .cells 9 (cat strC ss) (N * 1))] 1 (fun v h nx => v = .slice 0 0 (W.cpt ss).length N ∧ h = [(0, .cells 9 (cat strC (padC ss)) (N * 1))] ∧ nx = 1) := by
  intro ρ hg
  obtain ⟨c, hc⟩ := Option.isSome_iff_exists.1 (hg.keys (0, .cells 9 (cat strC ss) (N * 1)) (by simp))
  have e1 : renL ρ [.slice 0 0 ss.length N] = [.slice c 0 ss.length N] := by simp only [renL, renV, hc]
  have e2 : renH ρ [(0, .cells 9 (cat strC ss) (N * 1))] = [(c, .cells 9 (W.scs ss ++ []) (N * 1))] := by
    show [(ky ρ 0, renO ρ (.cells 9 (cat strC ss) (N * 1)))] = _
    rw [renO_dry (catStr_d _), ky_eq hc, cat_scs, List.append_nil]
  rw [e1, e2]
  refine (W.compact_tri (T := 9) (rest := []) (nn := N * 1) hl hN (cpt_le ss)).mono ?_
  rintro v h' ⟨rfl, rfl⟩
  refine ⟨ρ, .slice 0 0 (W.cpt ss).length N, [(0, .cells 9 (cat strC (padC ss)) (N * 1))], 1, agr.refl _ _, ⟨hg.fresh, fun p hp => by simp at hp; subst hp; rw [hc]; rfl, Nat.le_refl _⟩, by simp only [renV, hc], ?_, rfl, rfl, rfl⟩
  show _ = [(ky ρ 0, renO ρ (.cells 9 (cat strC (padC ss)) (N * 1)))]
  rw [renO_dry (catStr_d _), ky_eq hc, cat_scs, List.append_nil]; rfl
def rawS (x : Al.Stg) : List By := if x.kind = 1 then ((partsL x.text).filter fun p => decide (p.length ≤ 40)).map W.tf else []
def rawP (l : List Al.Stg) : List By := l.flatMap rawS
theorem rawP_s {l : List Al.Stg} {i : Nat} (hi : i < l.length) : rawP (l.take (i + 1)) = rawP (l.take i) ++ rawS l[i] := by
  rw [rawP, take_succ_get hi, List.flatMap_append]; simp [rawP]
def termsP (rx : By → Int) (l : List Al.Stg) : List By := if Al.stgsE rx l ≠ 0 then [] else W.cpt (W.srt (rawP l))
theorem ldSt {l : List Al.Stg} {i : Nat} (hi : i < l.length) : ldAt Tryz.prog 47 (cat Al.stgC l) (i * 4) = some (.agg (Al.stgC l[i])) := ld_cat (enc := Al.stgC) (fun _ => rfl) hi (by kernel_rfl) (by kernel_rfl)
theorem lg_term1 (p : By) (h0 : p ≠ []) (ha : p.all W.tbB = true) (hl : p.length ≤ big) : PTri Tryz.prog 17 [.str p] (slV strC [W.tf p]) := by
  have := W.terms_tri p (by simp only [big] at hl; omega)
  rw [show W.cpt (W.srt (W.rawTerms p)) = [W.tf p] from terms_word h0 ha, ssl_slV] at this
  exact this
theorem rawS_len (x : Al.Stg) : (rawS x).length ≤ x.text.length := by
  unfold rawS
  split
  · rw [List.length_map]
    exact Nat.le_trans (List.length_filter_le _ _) (partsL_len _)
  · simp
theorem rawP_len {l : List Al.Stg} {b : Nat} (h : ∀ x ∈ l, x.text.length ≤ b) : (rawP l).length ≤ b * l.length := by
  induction l with
  | nil => simp [rawP]
  | cons a r ih =>
    have h1 := ih fun x hx => h x (List.mem_cons_of_mem _ hx)
    have h2 := h a (by simp)
    have h3 := rawS_len a
    have e : rawP (a :: r) = rawS a ++ rawP r := rfl
    rw [e, List.length_append, List.length_cons, Nat.mul_succ]
    omega
theorem great_no {rx : By → Int} {l : List Al.Stg} (hg : Al.grSs l = false) (h0 : Al.stgsE rx l = 0) : l.length ≤ 12 ∧ ∀ x ∈ l, x.text.length ≤ 210 := by
  have h100 : ¬ 100 < l.length := fun h => by rw [Al.stgsE, if_pos h] at h0; cases h0
  have h12 : l.length ≤ 12 := Classical.byContradiction fun h => by
    rw [Al.grSs, if_pos (by omega)] at hg; cases hg
  rw [Al.grSs, if_neg (by omega), List.take_of_length_le h12] at hg
  refine ⟨h12, fun x hx => Classical.byContradiction fun h => ?_⟩
  have := List.any_eq_false.1 hg x hx
  simp [Al.grS] at this
  omega
def rawA (x : Al.Stg) (k : Nat) : List By := (((partsL x.text).take k).filter fun p => decide (p.length ≤ 40)).map W.tf
theorem rawA_s {x : Al.Stg} {k : Nat} (hk : k < (partsL x.text).length) : rawA x (k + 1) = rawA x k ++ if (partsL x.text)[k].length ≤ 40 then [W.tf (partsL x.text)[k]] else [] := by
  rw [rawA, take_succ_get hk, List.filter_append, List.map_append]
  congr 1
  rw [List.filter_cons]
  by_cases h : (partsL x.text)[k].length ≤ 40
  · rw [if_pos (by simpa using h), if_pos h]; rfl
  · rw [if_neg (by simpa using h), if_neg h]; rfl
theorem rawA_all {x : Al.Stg} (h : x.kind = 1) : rawA x (partsL x.text).length = rawS x := by
  rw [rawA, List.take_length, rawS, if_pos h]
theorem rawA_len (x : Al.Stg) (k : Nat) : (rawA x k).length ≤ x.text.length := by
  rw [rawA, List.length_map]
  refine Nat.le_trans (List.length_filter_le _ _) ?_
  rw [List.length_take]
  have := partsL_len x.text
  omega
abbrev tmH (acc : List By) (G : Option Nat) : Hp := (0, .cells 25 [gV 1 acc.length G] 1) :: gH 9 1 1 (cat strC acc) G
theorem subTm {acc : List By} {G : Option Nat} : (relH (sgI 2) (tmH acc G)).Sublist (tmH acc G) :=
  subK rfl (by simp only [renO, renL]; rw [← gV_ren rfl]) (subGs rfl)
theorem relH1 {sg : Sg} {k j nn : Nat} {T : TypeId} {cs : List V} (hd : cs.all dry = true) (hk : sgF sg k = some j) : relH sg [(k, .cells T cs nn)] = [(j, AObj.cells T cs nn)] := by
  simp only [relH, hk, renO_dry hd]
theorem renH1b {s : Nat → Option Nat} {k j nn : Nat} {T : TypeId} {cs : List V} {r : Hp} (hd : cs.all dry = true) (hk : s k = some j) : renH s [(k, .cells T cs nn)] ++ r = (j, AObj.cells T cs nn) :: r := by
  show [(ky s k, renO s (.cells T cs nn))] ++ r = _
  rw [renO_dry hd, ky_eq hk]; rfl
theorem pad_le (ss : List By) : VLe (.fslice (cat strC (padC ss)) (W.cpt ss).length) (slV strC (W.cpt ss)) := by
  have h := VLe.cut (cs := cat strC (padC ss)) (len := (W.cpt ss).length) (W.cpt ss).length (fun h => h)
  have e : (cat strC (padC ss)).take (W.cpt ss).length = cat strC (W.cpt ss) := by
    rw [padC, cat_append, List.take_append_of_le_length (by rw [catStr_len]; omega), List.take_of_length_le (by rw [catStr_len]; omega)]
  rw [e] at h
  exact h
theorem lp_terms {rx : By → Int} (H : Al.AlgRx rx) (l : List Al.Stg) (ho : Al.okSs l) (hg : Al.grSs l = false) : PTri Tryz.prog 11 [slV Al.stgC l] (slV strC (termsP rx l)) := by
  have hT := termsP.eq_1 rx l
  refine PTri.of_safe Tryz.func11 rfl Tryz.results11 Tryz.ntmps11 rfl ?_
  refine go 99 rfl ?_
  refine Safe.call (Al.alg_stgs H l ho) rfl rfl rfl ?_
  refine go 99 rfl ?_
  refine Safe.br rfl (fun a => ?_) (fun a => ?_)
  · have a1 : Al.stgsE rx l ≠ 0 := by simpa using a
    rw [if_pos a1] at hT
    rw [hT]
    refine go 99 rfl ?_
    exact ⟨.inr rfl, trivial, .weak rfl rfl (wkE rfl)⟩
  · have a1 : Al.stgsE rx l = 0 := by simpa using a
    rw [if_neg (by simp [a1])] at hT
    rw [hT]
    obtain ⟨h12, h210⟩ := great_no hg a1
    have hraw : ∀ i, (rawP (l.take i)).length ≤ 2520 := fun i => by
      have h1 := rawP_len (l := l.take i) (b := 210) fun x hx => h210 x (List.mem_of_mem_take hx)
      have h2 : (l.take i).length ≤ 12 := by rw [List.length_take]; omega
      omega
    refine go 99 rfl ?_
    refine Safe.loopH (α := (Nat × Option Nat)) (fun a => [(3, .ptr 0 0), (10, slV Al.stgC l), (11, nI l.length), (12, nI a.1)]) (fun a => tmH (rawP (l.take a.1)) a.2) 2 (fun a => l.length - a.1) (fun a => a.1 ≤ l.length ∧ okG a.2 (rawP (l.take a.1)).length) (fun a hf dl => dlOk dl hf) (0, none) (sgI 1) ⟨⟨fit rfl, fit rfl, fit rfl, fit rfl, trivial⟩, ⟨_, .refl _, (by exact List.Sublist.refl _)⟩, rfl⟩ ⟨Nat.zero_le _, (fun _ => rfl), (fun N h => by cases h)⟩ trivial ?_
    rintro ⟨i, G⟩ ⟨hi, hG⟩ hf dl hdl
    dsimp only at hi hG
    have hri := hraw i
    refine go 99 rfl ?_
    refine Safe.br rfl (fun c => ?_) (fun c => ?_)
    · have hi : i < l.length := ltc c
      have hS := rawP_s hi
      have hx := (ho.2 _ (List.getElem_mem hi)).1
      have ht := h210 _ (List.getElem_mem hi)
      refine go 99 rfl ?_
      refine Safe.idxF hi rfl rfl rfl ?_
      refine go 99 rfl ?_
      refine Safe.ldF (ldSt hi) rfl rfl rfl ?_
      refine go 99 rfl ?_
      refine Safe.br rfl (fun k => ?_) (fun k => ?_)
      · have k1 : ¬ l[i].kind = 1 := by simpa using k
        have eS : rawS l[i] = [] := by rw [rawS, if_neg k1]
        rw [eS, List.append_nil] at hS
        refine go 99 rfl ?_
        exact ⟨(sgI 2), (i + 1, G), ⟨hi, by dsimp only; rw [hS]; exact hG⟩, mlt hi, hdl, ⟨fit rfl, fit rfl, fit rfl, fit (isucc (by omega)), trivial⟩, ⟨_, .refl _, (by dsimp only; rw [hS]; exact subD subTm)⟩, (by cases G <;> rfl)⟩
      · have k1 : l[i].kind = 1 := by simpa using k
        refine go 99 rfl ?_
        refine Safe.call (lp_whole l[i].text) rfl rfl rfl ?_
        refine go 99 rfl ?_
        refine Safe.rel (sgI 2) (m2 := [(3, .ptr 0 0), (10, slV Al.stgC l), (11, nI l.length), (12, nI i), (21, .clo 59 [.fptr [.str l[i].text] 0])]) (h2 := tmH (rawP (l.take i)) G) (nx2 := 2) ⟨⟨fit rfl, fit rfl, fit rfl, fit rfl, fit rfl, trivial⟩, ⟨_, .refl _, subD subTm⟩, (by cases G <;> rfl)⟩ ?_
        refine Safe.rangeD (α := (List By × Option Nat)) 1 2 (fun b => tmH b.1 b.2) (fun k b => b.1 = rawP (l.take i) ++ rawA l[i] k ∧ okG b.2 b.1.length) (fun c b => False) (rawP (l.take i), G) (it_whole l[i].text hx) rfl rfl (paX_ok _) rfl (⟨by simp [rawA], hG⟩) ?_ ?_ ?_
        · rintro lb j hk ⟨acc, G1⟩ ⟨hE, hG1⟩
          dsimp only at hE hG1
          have hj : j < (partsL l[i].text).length := by rw [← paX_len]; exact hk
          have hw := partsF_word _ _ _ _ (List.getElem_mem hj)
          have hA := rawA_s hj
          have hAl := rawA_len l[i] j
          have hal : acc.length ≤ 5000 := by rw [hE, List.length_append]; omega
          rw [paX_at hk]
          refine go 99 rfl ?_
          refine Safe.toBody ?_
          refine go 99 rfl ?_
          refine Safe.br rfl (fun e => ?_) (fun e => ?_)
          · have e1 : (partsL l[i].text)[j].length ≤ 40 := by have := of_decide_eq_true e; omega
            rw [if_pos e1] at hA
            refine go 99 rfl ?_
            cases G1 with
            | none =>
              refine Safe.drawP mixed [1, 2, 0, 3, 4] [(true, true), (true, true), (true, true), (true, true), (true, true)] (by kernel_rfl) ?_
              refine go 99 rfl ?_
              refine Safe.call (lg_term1 (partsL l[i].text)[j] hw.1 hw.2 (by simp only [big]; omega)) rfl rfl rfl ?_
              refine go 99 rfl ?_
              refine Safe.tail (by kernel_rfl) ?_
              refine go 99 rfl ?_
              refine Safe.appG (k := 1) (G := none) (cs := cat strC acc) (len := acc.length) (us := strC (W.tf (partsL l[i].text)[j])) (mm := 1) (h1 := [(0, .cells 25 [gV 1 acc.length none] 1)]) (h2 := []) rfl (by simp [Hp.ns]) (fun h => ⟨by rw [List.length_eq_zero_iff.1 (hG1.1 h)]; rfl, hG1.1 h⟩) (by rw [List.append_nil]; rfl) rfl rfl rfl rfl (fun h => rfl) (by decide) rfl (catStr_len acc) rfl rfl (by omega) (fun N' hN' => ?_)
              refine go 99 rfl ?_
              exact ⟨rfl, (acc ++ [W.tf (partsL l[i].text)[j]], some N'), [(0, 0), (1, 2)], ⟨by dsimp only; rw [hA, hE, List.append_assoc], (fun h => by cases h), (fun N h => by cases h; simp; omega)⟩, trivial, ⟨_, perm1, subK rfl (by rw [show (acc ++ [W.tf (partsL l[i].text)[j]]).length = acc.length + 1 by simp]; rfl) (subK rfl (by rw [renO_dry (catStr_d _), catStr_app]) subN)⟩, rfl⟩
            | some N1 =>
              refine Safe.drawP mixed [1, 2, 0, 3, 4] [(true, true), (true, true), (true, true), (true, true), (true, true)] (by kernel_rfl) ?_
              refine go 99 rfl ?_
              refine Safe.call (lg_term1 (partsL l[i].text)[j] hw.1 hw.2 (by simp only [big]; omega)) rfl rfl rfl ?_
              refine go 99 rfl ?_
              refine Safe.tail (by kernel_rfl) ?_
              refine go 99 rfl ?_
              refine Safe.appG (k := 1) (G := (some N1)) (cs := cat strC acc) (len := acc.length) (us := strC (W.tf (partsL l[i].text)[j])) (mm := 1) (h1 := [(0, .cells 25 [gV 1 acc.length (some N1)] 1)]) (h2 := []) rfl (by simp [Hp.ns]) (fun h => ⟨by rw [List.length_eq_zero_iff.1 (hG1.1 h)]; rfl, hG1.1 h⟩) (by rw [List.append_nil]; rfl) rfl rfl rfl rfl (fun h => rfl) (by decide) rfl (catStr_len acc) rfl rfl (by omega) (fun N' hN' => ?_)
              refine go 99 rfl ?_
              exact ⟨rfl, (acc ++ [W.tf (partsL l[i].text)[j]], some N'), [(0, 0), (1, 2)], ⟨by dsimp only; rw [hA, hE, List.append_assoc], (fun h => by cases h), (fun N h => by cases h; simp; omega)⟩, trivial, ⟨_, perm1, subK rfl (by rw [show (acc ++ [W.tf (partsL l[i].text)[j]]).length = acc.length + 1 by simp]; rfl) (subK rfl (by rw [renO_dry (catStr_d _), catStr_app]) subN)⟩, rfl⟩
          · have e1 : ¬ (partsL l[i].text)[j].length ≤ 40 := by have := of_decide_eq_false e; omega
            rw [if_neg e1, List.append_nil] at hA
            refine go 99 rfl ?_
            exact ⟨rfl, (acc, G1), (sgI 2), ⟨by dsimp only; rw [hA, hE], hG1⟩, trivial, ⟨_, .refl _, subTm⟩, (by cases G1 <;> rfl)⟩
        · rintro r ⟨acc, G1⟩ ⟨hE, hG1⟩
          dsimp only at hE hG1
          rw [paX_len, rawA_all k1, ← hS] at hE
          subst hE
          refine go 99 rfl ?_
          exact ⟨(sgI 2), (i + 1, G1), ⟨hi, hG1⟩, mlt hi, (dlOk_1 hdl), ⟨fit rfl, fit rfl, fit rfl, fit (isucc (by omega)), trivial⟩, ⟨_, .refl _, subTm⟩, (by cases G1 <;> rfl)⟩
        · rintro r b c h
          cases h
    · have hi2 : i = l.length := Nat.le_antisymm hi (gec c)
      subst hi2
      rw [List.take_length] at hG ⊢
      have hrl := hraw l.length
      rw [List.take_length] at hrl
      cases G with
      | none =>
        have h0 : rawP l = [] := List.length_eq_zero_iff.1 (hG.1 rfl)
        have e0 : W.cpt (W.srt (rawP l)) = [] := by rw [h0]; unfold W.srt; rw [List.mergeSort_nil]; rfl
        rw [e0]
        refine go 99 rfl ?_
        refine Safe.call (W.sort_nil .nilslice rfl) rfl rfl rfl ?_
        refine go 99 rfl ?_
        refine Safe.call (W.compact_nil) rfl rfl rfl ?_
        refine go 99 rfl ?_
        exact ⟨.inr rfl, hdl, .weak rfl rfl (wkE rfl)⟩
      | some N =>
        have hN := hG.2 N rfl
        have hcm := sl_compact (W.srt (rawP l)) N (by rw [W.srt_length]; exact hN) (by rw [W.srt_length]; omega)
        rw [W.srt_length] at hcm
        refine go 99 rfl ?_
        refine Safe.callL (rest := [(0, .cells 25 [.slice 1 0 (rawP l).length N] 1)]) [(0, 1)] (sl_sort (rawP l) N hN (by omega)) rfl rfl rfl rfl (by rw [relH1 (catStr_d _) rfl]; exact List.Perm.swap _ _ _) (fun v' h' nx' q => ?_)
        obtain ⟨rfl, rfl, rfl⟩ := q
        refine Safe.hpO (h' := [(1, .cells 9 (cat strC (W.srt (rawP l))) (N * 1)), (0, .cells 25 [.slice 1 0 (rawP l).length N] 1)]) (renH1b (catStr_d _) rfl) ?_
        refine go 99 rfl ?_
        refine Safe.callL (rest := [(0, .cells 25 [.slice 1 0 (rawP l).length N] 1)]) [(0, 1)] hcm rfl rfl rfl rfl (by rw [relH1 (catStr_d _) rfl]; exact .refl _) (fun v' h' nx' q => ?_)
        obtain ⟨rfl, rfl, rfl⟩ := q
        refine Safe.hpO (h' := [(1, .cells 9 (cat strC (padC (W.srt (rawP l)))) (N * 1)), (0, .cells 25 [.slice 1 0 (rawP l).length N] 1)]) (renH1b (catStr_d _) rfl) ?_
        refine go 99 rfl ?_
        exact ⟨.inr rfl, hdl, .frz 1 rfl (catStr_dry _) (.weak rfl rfl (pad_le _))⟩
end Go.Proofs.YtmohgegpcfkooaaGreatDoor
end

section
namespace Go.Proofs.YtmohgegpcfkooaaGreatDoor
open Go.Fw
variable [Gl]
set_option maxRecDepth 20000
set_option maxHeartbeats 4000000
theorem r_let14 (c : UInt8) : PTri Tryz.prog 64 [.int .u8 c.toNat] (.tup [.int .u8 (W.lowB c).toNat, .bool (W.tbB c)]) := W.letter2_tri c
theorem r_with (l : List By) (s : By) (hl : l.length ≤ 1000000) : PTri Tryz.prog 37 [slV strC l, .str s] (slV strC (W.withS l s)) := by
  have := W.withS_tri l s hl
  rw [ssl_slV, ssl_slV] at this
  exact this
theorem r_terms1 (p : By) (h0 : p ≠ []) (ha : p.all W.tbB = true) (hl : p.length ≤ 40) : PTri Tryz.prog 65 [.str p] (slV strC [W.tf p]) := by
  have := W.terms14_tri p (by omega)
  rw [terms_word h0 ha, ssl_slV] at this
  exact this
def foldP (acc : List By) (ps : List By) : List By := (ps.filter fun p => decide (p.length ≤ 40)).foldl (fun a p => W.withS a (W.tf p)) acc
def innerL (s : By) : List By := foldP [] (partsL s)
theorem foldP_cons (acc : List By) (p : By) (ps : List By) : foldP acc ([p] ++ ps) = foldP (if p.length ≤ 40 then W.withS acc (W.tf p) else acc) ps := by
  unfold foldP
  rw [List.singleton_append, List.filter_cons]
  by_cases h : p.length ≤ 40
  · rw [if_pos (by simpa using h), if_pos h]; rfl
  · rw [if_neg (by simpa using h), if_neg h]
theorem r_inner (s : By) (hs : s.length ≤ 100000) : PTri Tryz.prog 36 [.str s] (slV strC (innerL s)) := by
  refine PTri.of_safe Tryz.func36 rfl Tryz.results36 Tryz.ntmps36 rfl ?_
  refine go 99 rfl ?_
  refine Safe.frzC 0 rfl rfl ?_
  refine Safe.loop (α := (Nat × List By)) (fun a => [(0, .str s), (3, slV strC a.2), (4, nI a.1)]) (fun a => []) 0 (fun a => s.length + 1 - a.1) (fun a => a.1 ≤ s.length + 1 ∧ a.2.length ≤ a.1 ∧ innerL s = foldP a.2 (partsI s a.1)) (0, []) (sgI 0) ⟨⟨fit rfl, fit rfl, fit rfl, trivial⟩, ⟨_, .refl _, List.nil_sublist _⟩, rfl⟩ ⟨Nat.zero_le _, Nat.le_refl _, rfl⟩ ?_
  rintro ⟨i, acc⟩ ⟨hi, hal, hF⟩
  dsimp only at hi hal hF
  refine go 99 rfl ?_
  refine Safe.br rfl (fun c => ?_) (fun c => ?_)
  · have hi : i < s.length := ltc c
    have hge := endW_ge s i
    have hle := endW_le (Nat.le_of_lt hi)
    refine go 99 rfl ?_
    refine Safe.ccut1 (α := Unit) (fun _ => [(0, .str s), (3, slV strC acc), (4, nI i), (5, nI (endW s i))]) (fun _ => []) 0 (fun _ => True) ?_ ?_
    · refine Safe.loop (α := Nat) (fun j => [(0, .str s), (3, slV strC acc), (4, nI i), (5, nI j)]) (fun j => []) 0 (fun j => s.length - j) (fun j => i ≤ j ∧ j ≤ s.length ∧ endW s i = endW s j) i (sgI 0) ⟨⟨fit rfl, fit rfl, fit rfl, fit rfl, trivial⟩, ⟨_, .refl _, List.nil_sublist _⟩, rfl⟩ ⟨Nat.le_refl _, Nat.le_of_lt hi, rfl⟩ ?_
      rintro j ⟨hij, hj, hE⟩
      refine go 99 rfl ?_
      refine Safe.br rfl (fun d => ?_) (fun d => ?_)
      · have hj : j < s.length := ltc d
        refine go 99 rfl ?_
        refine Safe.idxS hj rfl rfl rfl ?_
        refine go 99 rfl ?_
        refine Safe.call (r_let14 s[j]) rfl rfl rfl ?_
        refine go 99 rfl ?_
        refine Safe.br rfl (fun e => ?_) (fun e => ?_)
        · have e1 : W.tbB s[j] = false := by simpa using e
          refine go 99 rfl ?_
          exact ⟨sgI 0, (), trivial, rfl, rfl, ⟨fit rfl, fit rfl, fit rfl, fit (congrArg (fun n : Nat => some (nI n)) (hE.trans (endW_out hj e1)).symm), trivial⟩, ⟨_, .refl _, List.nil_sublist _⟩, rfl⟩
        · have e1 : W.tbB s[j] = true := by simpa using e
          refine go 99 rfl ?_
          exact ⟨sgI 0, j + 1, ⟨by omega, hj, hE.trans (endW_in hj e1)⟩, mlt hj, rfl, rfl, ⟨fit rfl, fit rfl, fit rfl, fit (isucc (by omega)), trivial⟩, ⟨_, .refl _, List.nil_sublist _⟩, rfl⟩
      · have hj2 : j = s.length := Nat.le_antisymm hj (gec d)
        subst hj2
        refine go 99 rfl ?_
        exact ⟨sgI 0, (), trivial, rfl, rfl, ⟨fit rfl, fit rfl, fit rfl, fit (congrArg (fun n : Nat => some (nI n)) (hE.trans (endW_len s)).symm), trivial⟩, ⟨_, .refl _, List.nil_sublist _⟩, rfl⟩
    · rintro ⟨⟩ -
      have hP := partsI_ref hi
      have hw := word_at (s := s) (i := i)
      have hN := endW_ne hi
      generalize endW s i = e at *
      have wr : IntKind.i64.wrap ((e : Int) - (i : Int)) = (e : Int) - (i : Int) := by
        have : (e : Int) - (i : Int) = ((e - i : Nat) : Int) := by omega
        rw [this]; exact wrap64_fit (by omega) (by omega)
      have hskip : ¬ (i < e ∧ 0 < i ∧ e < s.length) → innerL s = foldP acc (partsI s (e + 1)) := fun h => by rw [hF, hP, if_neg h]; rfl
      refine go 99 rfl ?_
      refine Safe.gs rfl (fun c1 => ?_) (fun c1 => ?_)
      · have c1 : i < e := by have := of_decide_eq_true c1; omega
        refine go 99 rfl ?_
        refine Safe.gs rfl (fun c2 => ?_) (fun c2 => ?_)
        · have c2 : 0 < i := by have := of_decide_eq_true c2; omega
          refine go 99 rfl ?_
          refine Safe.gs rfl (fun c3 => ?_) (fun c3 => ?_)
          · have c3 : e < s.length := by have := of_decide_eq_true c3; omega
            rw [if_pos ⟨c1, c2, c3⟩] at hP
            have hpl : ((s.drop i).take (e - i)).length = e - i := by simp; omega
            rw [hP, foldP_cons, hpl] at hF
            refine go 99 rfl ?_
            refine Safe.br rfl (fun c4 => ?_) (fun c4 => ?_)
            · have c4 : e - i ≤ 40 := by have := of_decide_eq_true c4; rw [wr] at this; omega
              rw [if_pos c4] at hF
              refine go 99 rfl ?_
              refine Safe.slS i e (by omega) (by omega) rfl rfl rfl rfl ?_
              refine go 99 rfl ?_
              refine Safe.call (r_terms1 ((s.drop i).take (e - i)) (fun h => by rw [h] at hpl; simp at hpl; omega) (by rw [hw]; exact tw_all _ _) (by omega)) rfl rfl rfl ?_
              refine go 99 rfl ?_
              refine Safe.idxF (i := 0) Nat.zero_lt_one rfl rfl rfl ?_
              refine go 99 rfl ?_
              refine Safe.ldF ((ldStr (l := [W.tf ((s.drop i).take (e - i))]) (i := 0) (by simp))) rfl rfl rfl ?_
              refine go 99 rfl ?_
              refine Safe.call (r_with acc (W.tf ((s.drop i).take (e - i))) (by omega)) rfl rfl rfl ?_
              refine go 99 rfl ?_
              exact ⟨sgI 0, (e + 1, W.withS acc (W.tf ((s.drop i).take (e - i)))), ⟨by dsimp only; omega, by have := W.withS_length acc (W.tf ((s.drop i).take (e - i))); dsimp only; omega, hF⟩, (by dsimp only; omega), rfl, rfl, ⟨fit rfl, fit rfl, fit (isucc (by omega)), trivial⟩, ⟨_, .refl _, List.nil_sublist _⟩, rfl⟩
            · have c4 : ¬ e - i ≤ 40 := by have := of_decide_eq_false c4; rw [wr] at this; omega
              rw [if_neg c4] at hF
              refine go 99 rfl ?_
              exact ⟨sgI 0, (e + 1, acc), ⟨by dsimp only; omega, by dsimp only; omega, hF⟩, (by dsimp only; omega), rfl, rfl, ⟨fit rfl, fit rfl, fit (isucc (by omega)), trivial⟩, ⟨_, .refl _, List.nil_sublist _⟩, rfl⟩
          · have c3 : ¬ e < s.length := by have := of_decide_eq_false c3; omega
            refine go 99 rfl ?_
            exact ⟨sgI 0, (e + 1, acc), ⟨by dsimp only; omega, by dsimp only; omega, hskip (by omega)⟩, (by dsimp only; omega), rfl, rfl, ⟨fit rfl, fit rfl, fit (isucc (by omega)), trivial⟩, ⟨_, .refl _, List.nil_sublist _⟩, rfl⟩
        · have c2 : ¬ 0 < i := by have := of_decide_eq_false c2; omega
          refine go 99 rfl ?_
          exact ⟨sgI 0, (e + 1, acc), ⟨by dsimp only; omega, by dsimp only; omega, hskip (by omega)⟩, (by dsimp only; omega), rfl, rfl, ⟨fit rfl, fit rfl, fit (isucc (by omega)), trivial⟩, ⟨_, .refl _, List.nil_sublist _⟩, rfl⟩
      · have c1 : ¬ i < e := by have := of_decide_eq_false c1; omega
        refine go 99 rfl ?_
        exact ⟨sgI 0, (e + 1, acc), ⟨by dsimp only; omega, by dsimp only; omega, hskip (by omega)⟩, (by dsimp only; omega), rfl, rfl, ⟨fit rfl, fit rfl, fit (isucc (by omega)), trivial⟩, ⟨_, .refl _, List.nil_sublist _⟩, rfl⟩
  · have hi2 : s.length ≤ i := gec c
    rw [partsI_end hi2] at hF
    have e1 : innerL s = acc := by rw [hF]; rfl
    rw [e1]
    refine go 99 rfl ?_
    exact ⟨.inr rfl, trivial, .done (rfl) rfl⟩
theorem foldP_len : ∀ (ps acc : List By), (foldP acc ps).length ≤ acc.length + ps.length
  | [], acc => by simp [foldP]
  | p :: ps, acc => by
    have e := foldP_cons acc p ps
    rw [List.singleton_append] at e
    rw [e]
    have h1 := foldP_len ps (if p.length ≤ 40 then W.withS acc (W.tf p) else acc)
    have h2 := W.withS_length acc (W.tf p)
    simp only [List.length_cons]
    split at h1 <;> split <;> omega
theorem innerL_len (s : By) : (innerL s).length ≤ s.length := by
  have h1 := foldP_len (partsL s) []
  have h2 := partsL_len s
  simp only [List.length_nil] at h1
  unfold innerL; omega
def inS (x : Al.Stg) : List By := if x.kind = 1 then innerL x.text else []
def inP (l : List Al.Stg) : List By := l.flatMap inS
def termsR (rx : By → Int) (l : List Al.Stg) : List By := if Al.stgsE rx l ≠ 0 then [] else (inP l).foldl W.withS []
theorem inP_s {l : List Al.Stg} {i : Nat} (hi : i < l.length) : inP (l.take (i + 1)) = inP (l.take i) ++ inS l[i] := by
  rw [inP, take_succ_get hi, List.flatMap_append]; simp [inP]
theorem inP_len {l : List Al.Stg} {b : Nat} (h : ∀ x ∈ l, x.text.length ≤ b) : (inP l).length ≤ b * l.length := by
  induction l with
  | nil => simp [inP]
  | cons a r ih =>
    have h1 := ih fun x hx => h x (List.mem_cons_of_mem _ hx)
    have h2 := h a (by simp)
    have h3 : (inS a).length ≤ a.text.length := by
      unfold inS
      split
      · exact innerL_len _
      · simp
    have e : inP (a :: r) = inS a ++ inP r := rfl
    rw [e, List.length_append, List.length_cons, Nat.mul_succ]
    omega
theorem foldW_len : ∀ (ws acc : List By), (ws.foldl W.withS acc).length ≤ acc.length + ws.length
  | [], acc => by simp
  | w :: ws, acc => by
    have h1 := foldW_len ws (W.withS acc w)
    have h2 := W.withS_length acc w
    simp only [List.foldl_cons, List.length_cons]; omega
theorem r_terms {rx : By → Int} (H : Al.RefRx rx) (l : List Al.Stg) (ho : Al.okSs l) (hg : Al.grSs l = false) : PTri Tryz.prog 12 [slV Al.stgC l] (slV strC (termsR rx l)) := by
  have hT := termsR.eq_1 rx l
  refine PTri.of_safe Tryz.func12 rfl Tryz.results12 Tryz.ntmps12 rfl ?_
  refine go 99 rfl ?_
  refine Safe.frzO 0 rfl rfl ?_
  refine Safe.call (Al.ref_stgs H l ho) rfl rfl rfl ?_
  refine go 99 rfl ?_
  refine Safe.br rfl (fun a => ?_) (fun a => ?_)
  · have a1 : Al.stgsE rx l ≠ 0 := by simpa using a
    rw [if_pos a1] at hT
    rw [hT]
    refine go 99 rfl ?_
    exact ⟨.inr rfl, trivial, .done (rfl) rfl⟩
  · have a1 : Al.stgsE rx l = 0 := by simpa using a
    rw [if_neg (by simp [a1])] at hT
    obtain ⟨h12, h210⟩ := great_no hg a1
    have hin : ∀ i, (inP (l.take i)).length ≤ 2520 := fun i => by
      have h1 := inP_len (l := l.take i) (b := 210) fun x hx => h210 x (List.mem_of_mem_take hx)
      have h2 : (l.take i).length ≤ 12 := by rw [List.length_take]; omega
      omega
    refine go 99 rfl ?_
    refine Safe.loop (α := (Nat × List By)) (fun a => [(0, slV Al.stgC l), (3, slV strC a.2), (4, nI a.1)]) (fun a => []) 0 (fun a => l.length - a.1) (fun a => a.1 ≤ l.length ∧ a.2 = (inP (l.take a.1)).foldl W.withS []) (0, []) (sgI 0) ⟨⟨fit rfl, fit rfl, fit rfl, trivial⟩, ⟨_, .refl _, List.nil_sublist _⟩, rfl⟩ ⟨Nat.zero_le _, rfl⟩ ?_
    rintro ⟨i, acc⟩ ⟨hi, hF⟩
    dsimp only at hi hF
    refine go 99 rfl ?_
    refine Safe.br rfl (fun c => ?_) (fun c => ?_)
    · have hi : i < l.length := ltc c
      have hS := inP_s hi
      have hx := (ho.2 _ (List.getElem_mem hi)).1
      have ht := h210 _ (List.getElem_mem hi)
      have hacc : acc.length ≤ 2520 := by rw [hF]; have := foldW_len (inP (l.take i)) []; have := hin i; simp at *; omega
      refine go 99 rfl ?_
      refine Safe.idxF hi rfl rfl rfl ?_
      refine go 99 rfl ?_
      refine Safe.ldF ((ld_cat1 (enc := Al.stgC) 0 (fun _ => rfl) hi (by decide) (by kernel_rfl) rfl)) rfl rfl rfl ?_
      refine go 99 rfl ?_
      refine Safe.br rfl (fun k => ?_) (fun k => ?_)
      · have k1 : l[i].kind = 1 := by simpa using k
        have eS : inS l[i] = innerL l[i].text := by rw [inS, if_pos k1]
        rw [eS] at hS
        refine go 99 rfl ?_
        refine Safe.idxF hi rfl rfl rfl ?_
        refine go 99 rfl ?_
        refine Safe.ldF ((ld_cat1 (enc := Al.stgC) 1 (fun _ => rfl) hi (by decide) (by kernel_rfl) rfl)) rfl rfl rfl ?_
        refine go 99 rfl ?_
        refine Safe.call (r_inner l[i].text (by omega)) rfl rfl rfl ?_
        refine go 99 rfl ?_
        refine Safe.loop (α := (Nat × List By)) (fun a => [(0, slV Al.stgC l), (3, slV strC a.2), (4, nI i), (5, slV strC (innerL l[i].text)), (6, nI a.1)]) (fun a => []) 0 (fun a => (innerL l[i].text).length - a.1) (fun a => a.1 ≤ (innerL l[i].text).length ∧ a.2 = ((innerL l[i].text).take a.1).foldl W.withS acc) (0, acc) (sgI 0) ⟨⟨fit rfl, fit rfl, fit rfl, fit rfl, fit rfl, trivial⟩, ⟨_, .refl _, List.nil_sublist _⟩, rfl⟩ ⟨Nat.zero_le _, rfl⟩ ?_
        rintro ⟨j, acc2⟩ ⟨hj, hF2⟩
        dsimp only at hj hF2
        have hil := innerL_len l[i].text
        refine go 99 rfl ?_
        refine Safe.br rfl (fun d => ?_) (fun d => ?_)
        · have hj : j < (innerL l[i].text).length := ltc d
          have hacc2 : acc2.length ≤ 5000 := by rw [hF2]; have := foldW_len ((innerL l[i].text).take j) acc; rw [List.length_take] at this; omega
          refine go 99 rfl ?_
          refine Safe.idxF hj rfl rfl rfl ?_
          refine go 99 rfl ?_
          refine Safe.ldF (ldStr hj) rfl rfl rfl ?_
          refine go 99 rfl ?_
          refine Safe.call (r_with acc2 (innerL l[i].text)[j] (by omega)) rfl rfl rfl ?_
          refine go 99 rfl ?_
          exact ⟨sgI 0, (j + 1, W.withS acc2 (innerL l[i].text)[j]), ⟨hj, by dsimp only; rw [take_succ_get hj, List.foldl_append, ← hF2]; rfl⟩, (mlt hj), rfl, rfl, ⟨fit rfl, fit rfl, fit rfl, fit rfl, fit (isucc (by omega)), trivial⟩, ⟨_, .refl _, List.nil_sublist _⟩, rfl⟩
        · have hj2 : j = (innerL l[i].text).length := Nat.le_antisymm hj (gec d)
          rw [hj2, List.take_length] at hF2
          refine go 99 rfl ?_
          exact ⟨sgI 0, (i + 1, acc2), ⟨hi, by dsimp only; rw [hS, List.foldl_append, ← hF, hF2]⟩, (mlt hi), rfl, rfl, ⟨fit rfl, fit rfl, fit (isucc (by omega)), trivial⟩, ⟨_, .refl _, List.nil_sublist _⟩, rfl⟩
      · have k1 : ¬ l[i].kind = 1 := by simpa using k
        have eS : inS l[i] = [] := by rw [inS, if_neg k1]
        rw [eS, List.append_nil] at hS
        refine go 99 rfl ?_
        exact ⟨sgI 0, (i + 1, acc), ⟨hi, by dsimp only; rw [hS, hF]⟩, (mlt hi), rfl, rfl, ⟨fit rfl, fit rfl, fit (isucc (by omega)), trivial⟩, ⟨_, .refl _, List.nil_sublist _⟩, rfl⟩
    · have hi2 : i = l.length := Nat.le_antisymm hi (gec c)
      rw [hi2, List.take_length] at hF
      rw [hT, ← hF]
      refine go 99 rfl ?_
      exact ⟨.inr rfl, trivial, .done (rfl) rfl⟩
end Go.Proofs.YtmohgegpcfkooaaGreatDoor
end

section
namespace Go.Proofs.YtmohgegpcfkooaaGreatDoor
open Go.Fw
variable [Gl]
set_option maxRecDepth 20000
set_option maxHeartbeats 4000000
theorem innerL_mem (s x : By) : x ∈ innerL s ↔ x ∈ ((partsL s).filter fun p => decide (p.length ≤ 40)).map W.tf := by
  have e : innerL s = (((partsL s).filter fun p => decide (p.length ≤ 40)).map W.tf).foldl W.withS [] := by
    rw [innerL, foldP, List.foldl_map]
  rw [e, W.foldW_mem]; simp
theorem inP_mem (l : List Al.Stg) (x : By) : x ∈ inP l ↔ x ∈ rawP l := by
  rw [inP, rawP, List.mem_flatMap, List.mem_flatMap]
  constructor
  · rintro ⟨s, hs, hx⟩
    refine ⟨s, hs, ?_⟩
    unfold inS at hx; unfold rawS
    split at hx
    · rename_i h; rw [if_pos h]; exact (innerL_mem _ _).1 hx
    · simp at hx
  · rintro ⟨s, hs, hx⟩
    refine ⟨s, hs, ?_⟩
    unfold rawS at hx; unfold inS
    split at hx
    · rename_i h; rw [if_pos h]; exact (innerL_mem _ _).2 hx
    · simp at hx
theorem terms_eq (rx : By → Int) (l : List Al.Stg) : termsP rx l = termsR rx l := by
  unfold termsP termsR
  split
  · rfl
  · refine W.asc_eq _ _ (W.cs_sorted _) (W.foldW_asc _ _ .nil) fun x => ?_
    rw [W.cs_mem, W.foldW_mem, inP_mem]; simp
theorem eq_self (a : List By) (hl : a.length ≤ big) : PTri Tryz.prog 10 [slV strC a, slV strC a] (.bool true) := by
  simp only [big] at hl
  refine PTri.of_safe Tryz.func10 rfl Tryz.results10 Tryz.ntmps10 rfl ?_
  refine go 99 rfl ?_
  refine Safe.brF rfl (by simp) ?_
  refine go 99 rfl ?_
  refine Safe.loop (α := Nat) (fun i => [(0, slV strC a), (1, slV strC a), (12, nI a.length), (13, nI i)]) (fun i => []) 0 (fun i => a.length - i) (fun i => i ≤ a.length) 0 (sgI 0) ⟨⟨fit rfl, fit rfl, fit rfl, fit rfl, trivial⟩, ⟨_, .refl _, List.nil_sublist _⟩, rfl⟩ (Nat.zero_le _) ?_
  rintro i hi
  refine go 99 rfl ?_
  refine Safe.br rfl (fun c => ?_) (fun c => ?_)
  · have hi : i < a.length := ltc c
    refine go 99 rfl ?_
    refine Safe.drawP mixed [0, 1, 2, 3, 4, 5, 6, 7, 8] [(true, true), (true, true), (true, true), (true, true), (true, true), (true, true), (true, true), (true, true), (true, true)] (by kernel_rfl) ?_
    refine go 99 rfl ?_
    refine Safe.idxF hi rfl rfl rfl ?_
    refine go 99 rfl ?_
    refine Safe.ldF (ldStr hi) rfl rfl rfl ?_
    refine go 99 rfl ?_
    refine Safe.idxF hi rfl rfl rfl ?_
    refine go 99 rfl ?_
    refine Safe.ldF (ldStr hi) rfl rfl rfl ?_
    refine go 99 rfl ?_
    refine Safe.brF rfl (by simp) ?_
    refine go 99 rfl ?_
    exact ⟨sgI 0, i + 1, hi, mlt hi, rfl, rfl, ⟨fit rfl, fit rfl, fit rfl, fit (isucc (by omega)), trivial⟩, ⟨_, .refl _, List.nil_sublist _⟩, rfl⟩
  · refine go 99 rfl ?_
    exact ⟨.inr rfl, trivial, .done (rfl) rfl⟩
theorem termsR_len {rx : By → Int} {l : List Al.Stg} (hg : Al.grSs l = false) : (termsR rx l).length ≤ big := by
  unfold termsR
  split
  · simp [big]
  · rename_i h
    have h0 : Al.stgsE rx l = 0 := by simpa using h
    obtain ⟨h12, h210⟩ := great_no hg h0
    have h1 := inP_len h210
    have h2 := foldW_len (inP l) []
    simp only [List.length_nil] at h2
    simp only [big]; omega
theorem l_terms (l : List Al.Stg) (ho : Al.okSs l) : PTri Tryz.prog 3 [slV Al.stgC l] (.bool true) := by
  refine PTri.of_safe Tryz.func3 rfl Tryz.results3 Tryz.ntmps3 rfl ?_
  refine go 99 rfl ?_
  refine Safe.call (Al.g_stages l ho) rfl rfl rfl ?_
  refine go 99 rfl ?_
  refine Safe.gs rfl (fun a => ?_) (fun a => ?_)
  · have a1 : Al.grSs l = true := by simpa using a
    refine go 99 rfl ?_
    first | refine Safe.gsK true rfl rfl ?_ | refine Safe.gsK false rfl rfl ?_ | refine Safe.brT rfl rfl ?_ | refine Safe.brF rfl rfl ?_
    refine go 99 rfl ?_
    refine Safe.call (l_awake) rfl rfl rfl ?_
    refine go 99 rfl ?_
    exact ⟨.inr rfl, trivial, .done (rfl) rfl⟩
  · have a1 : Al.grSs l = false := by simpa using a
    refine go 99 rfl ?_
    refine Safe.call (lp_terms Al.alg_rx l ho a1) rfl rfl rfl ?_
    refine go 99 rfl ?_
    refine Safe.call (r_terms Al.ref_rx l ho a1) rfl rfl rfl ?_
    rw [terms_eq]
    refine go 99 rfl ?_
    refine Safe.call (eq_self (termsR Al.rxC l) (termsR_len a1)) rfl rfl rfl ?_
    refine go 99 rfl ?_
    first | refine Safe.gsK true rfl rfl ?_ | refine Safe.gsK false rfl rfl ?_ | refine Safe.brT rfl rfl ?_ | refine Safe.brF rfl rfl ?_
    refine go 99 rfl ?_
    refine Safe.call (l_awake) rfl rfl rfl ?_
    refine go 99 rfl ?_
    exact ⟨.inr rfl, trivial, .done (rfl) rfl⟩
end Go.Proofs.YtmohgegpcfkooaaGreatDoor
end

section
namespace Go.Proofs.YtmohgegpcfkooaaGreatDoor
open Go.Fw
variable [Gl]
theorem l_termsG (hG : GInt) (l : List Al.Stg) (ho : Al.okSs l) : PTri Tryz.prog 3 [slV Al.stgC l] (.bool true) := l_terms l ho
end Go.Proofs.YtmohgegpcfkooaaGreatDoor
end
