/- A part of the proof: FwT -/
import Derived.Test.YtfdmdcpopmcmcaaGreatDoorFwS
set_option linter.all false
set_option linter.unusedSectionVars false
set_option linter.unusedVariables false
set_option linter.unusedSimpArgs false
section
namespace Go.Fw
variable [Gl]
variable {P : Program} {n : Nat} {t : Fr} {h : Hp}

/-! ### Lending: a function that is given frozen memory may be given owned memory for the while -/
/-- Values that hang on no frozen memory. -/
def dryLeaf : V → Bool
  | .int _ _ | .bool _ | .str _ | .flt _ _ | .nilptr | .nilslice | .nilmap | .nilfunc | .niliface => true
  | _ => false
def dryV : V → Bool
  | .int _ _ | .bool _ | .str _ | .flt _ _ | .nilptr | .nilslice | .nilmap | .nilfunc | .niliface => true
  | .tup l => l.all dryLeaf
  | _ => false
theorem leafV'_r {F F' : Froz} {v : V} {x : Value} (hd : dryLeaf v = true) (h : VR F v x) : VR F' v x := by
  cases h <;> first
    | (simp [dryLeaf] at hd; done)
    | constructor
theorem dryV_r {F F' : Froz} {v : V} {x : Value} (hd : dryV v = true) (h : VR F v x) : VR F' v x := by
  cases h <;> first
    | (simp [dryV] at hd; done)
    | (constructor; done)
    | skip
  rename_i cs vs hl h2
  simp only [dryV, List.all_eq_true] at hd
  exact .tup _ _ hl fun i v hv => leafV'_r (hd v (List.mem_of_getElem? hv)) (h2 i v hv)
def FDel (F : Froz) (b : Nat) : Froz := fun i => if i = b then none else F i
theorem Tri.lend {f : FuncId} {us us' : List V} {r : V} {b nn : Nat} {T : TypeId} {cs : List V} (hp : PTri P f us' r) (hu : us.map (frzV b cs) = us') (hd : dryV r = true) :
    Tri P f us [(b, .cells T cs nn)] fun v h' => v = r ∧ h' = [(b, .cells T cs nn)] := by
  intro F w av ho ha
  obtain ⟨c, fz, hc, hl, hnn, hz, hr⟩ := own_cells ho (b := b) (T := T) (cs := cs) (n := nn) (by simp [hget])
  have hF := ho.off b (by simp)
  have h1 := ho.freeze (b := b) (o := .cells T cs nn) (by simp) hc
  have hdel0 : hdel [(b, AObj.cells T cs nn)] b = [] := by simp [hdel]
  rw [hdel0] at h1
  have hmono := FAdd_le (x := .cells c T fz) hF
  have ha' : VRs (FAdd F b (.cells c T fz)) us' av := by
    refine ⟨by rw [← hu]; simpa using ha.1, fun i v hv => ?_⟩
    rw [← hu, List.getElem?_map] at hv
    obtain ⟨u, hu', rfl⟩ := Option.map_eq_some_iff.1 hv
    exact frzV_r hF hl hr (ha.2 i u hu')
  refine (hp _ w av h1 ha').mono ?_
  rintro e w' ⟨v, x, h', F', rfl, ⟨rfl, rfl⟩, o', hv, tr⟩
  have hbF' : F' b = some (.cells c T fz) := tr.mono b _ (by simp [FAdd])
  have hb' : w'.heap[b]? = some (.cells c T fz) := o'.frz b _ hbF'
  have hle : FLe F (FDel F' b) := fun i o hi => by
    have hne : i ≠ b := fun e => by rw [e, hF] at hi; cases hi
    simp only [FDel, if_neg hne]
    exact tr.mono i o (hmono i o hi)
  refine ⟨_, x, _, FDel F' b, rfl, ⟨rfl, rfl⟩, ⟨by simp, ?_, ?_, ?_, FLe.trans ho.gl hle⟩, dryV_r hd hv, ⟨hle, tr.size, ?_, ?_, ?_, tr.os, tr.tape, tr.output, tr.drn⟩⟩
  · intro b1 o1 hm
    simp only [List.mem_singleton, Prod.mk.injEq] at hm
    obtain ⟨rfl, rfl⟩ := hm
    exact ⟨_, hb', by rw [hnn]; exact .cells T cs c fz hl hz fun i v hv => (hr i v hv).mono hle⟩
  · intro b1 hm
    simp only [Hp.ns_cons, Hp.ns_nil, List.mem_singleton] at hm
    subst hm
    simp [FDel]
  · intro i o hi
    simp only [FDel] at hi
    split at hi
    · simp at hi
    · exact o'.frz i o hi
  · intro i hi _
    exact tr.keep i hi (by simp)
  · exact fun i hi => .inl hi
  · intro i hi
    simp only [FDel] at hi
    split at hi
    · rename_i e; exact .inl (by simp [e])
    · rename_i e
      rcases tr.fr i (by simpa [FAdd, e] using hi) with h | h
      · simp at h
      · exact .inr h
/-- What a pure function has left behind is given up. -/
theorem PTri.any {f : FuncId} {us : List V} {r : V} (ht : Tri P f us [] fun v _ => v = r) : PTri P f us r :=
  Tri.vent ht fun v h' e => ⟨v, [], .drop (List.nil_sublist _) (.refl _ _), e, rfl⟩
/-- Arguments may be known less well. -/
theorem Tri.weak {f : FuncId} {us us' : List V} {Φ : V → Hp → Prop} (ht : Tri P f us' h Φ) (hu : us.length = us'.length) (hl : ∀ (i : Nat) u u', us[i]? = some u → us'[i]? = some u' → VLe u u') : Tri P f us h Φ := fun F w av ho ha =>
  ht F w av ho ⟨by rw [ha.1, hu], fun i v' hv' => by
    have hi : i < us.length := by rw [hu]; exact (List.getElem?_eq_some_iff.1 hv').1
    have hu' : us[i]? = some us[i] := by simp [hi]
    exact hl i _ _ hu' hv' _ _ (ha.2 i _ hu')⟩
end Go.Fw
end
