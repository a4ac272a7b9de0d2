/- A part of the proof: LwO -/
import Derived.Test.YtijfihbdcdkalaaGreatDoorLwN
set_option linter.all false
set_option linter.unusedSectionVars false
set_option linter.unusedVariables false
set_option linter.unusedSimpArgs false
namespace Go.Fw
variable [Gl]
variable {P : Program} {ρr : Option Nat} {n nb : Nat} {Q : LPo} {arr : Array Oper} {o : Oper} {os : List Oper} {κ : List Kt} {kn : Kn} {m : Fl} {h hf : Hp} {nx : Nat} {dl : List Nat}
def thr (ρ' s ρ2 : Nat → Option Nat) : Prop := ∀ k c, ρ' k = some c → ∃ j, s k = some j ∧ ρ2 j = some c
mutual
theorem renV_back {ρ' s ρ2 : Nat → Option Nat} (hs : thr ρ' s ρ2) {F : Froz} : ∀ (v : V) {x : Value}, VR F (renV ρ' v) x → VR F (renV ρ2 (renV s v)) x
  | .ptr b o, x, h => by
    simp only [renV] at h ⊢
    cases hb : ρ' b with
    | none => rw [hb] at h; simp only [imp] at h; exact absurd h.slice_le (by omega)
    | some c => rw [hb] at h; obtain ⟨j, h1, h2⟩ := hs b c hb; rw [h1]; simpa only [renV, h2] using h
  | .slice b o l k, x, h => by
    simp only [renV] at h ⊢
    cases hb : ρ' b with
    | none => rw [hb] at h; simp only [imp] at h; exact absurd h.slice_le (by omega)
    | some c => rw [hb] at h; obtain ⟨j, h1, h2⟩ := hs b c hb; rw [h1]; simpa only [renV, h2] using h
  | .map b, x, h => by
    simp only [renV] at h ⊢
    cases hb : ρ' b with
    | none => rw [hb] at h; simp only [imp] at h; exact absurd h.slice_le (by omega)
    | some c => rw [hb] at h; obtain ⟨j, h1, h2⟩ := hs b c hb; rw [h1]; simpa only [renV, h2] using h
  | .clo f cs, x, h => by
    simp only [renV] at h ⊢
    obtain ⟨vs, rfl, hv⟩ := h.clo_inv
    exact .of_clo ⟨by rw [hv.1]; simp, renL_back hs cs (fun i => vs.getD i undef) hv.2⟩
  | .iface t v, x, h => by
    simp only [renV] at h ⊢
    obtain ⟨y, rfl, hy⟩ := h.iface_inv
    exact .iface _ _ _ (renV_back hs v hy)
  | .agg cs, x, h => by
    simp only [renV] at h ⊢
    obtain ⟨vs, rfl, hv⟩ := h.agg_inv
    exact .of_agg ⟨by rw [hv.1]; simp, renL_back hs cs (fun i => vs.getD i undef) hv.2⟩
  | .tup cs, x, h => by
    simp only [renV] at h ⊢
    obtain ⟨vs, rfl, hv⟩ := h.tup_inv
    exact .of_tup ⟨by rw [hv.1]; simp, renL_back hs cs (fun i => vs.getD i undef) hv.2⟩
  | .int _ _, x, h | .bool _, x, h | .str _, x, h | .flt _ _, x, h | .nilptr, x, h | .fptr _ _, x, h | .nilslice, x, h | .fslice _ _, x, h | .eslice, x, h | .nilmap, x, h | .nilfunc, x, h | .yield _, x, h | .niliface, x, h => by
    simpa only [renV] using h
theorem renL_back {ρ' s ρ2 : Nat → Option Nat} (hs : thr ρ' s ρ2) {F : Froz} : ∀ (l : List V) (g : Nat → Value), (∀ (i : Nat) v, (renL ρ' l)[i]? = some v → VR F v (g i)) → ∀ (i : Nat) v, (renL ρ2 (renL s l))[i]? = some v → VR F v (g i)
  | [], g, h, i, v, hv => by simp [renL] at hv
  | u :: r, g, h, i, v, hv => by
    cases i with
    | zero =>
      simp only [renL, List.getElem?_cons_zero, Option.some.injEq] at hv
      subst hv
      exact renV_back hs u (h 0 _ (by simp [renL]))
    | succ i =>
      simp only [renL, List.getElem?_cons_succ] at hv
      exact renL_back hs r (fun j => g (j + 1)) (fun j w hw => h (j + 1) w (by simpa only [renL, List.getElem?_cons_succ] using hw)) i v hv
end
theorem renO_back {ρ' s ρ2 : Nat → Option Nat} (hs : thr ρ' s ρ2) {F : Froz} {o : AObj} {x : Obj} (h : OR F (renO ρ' o) x) : OR F (renO ρ2 (renO s o)) x := by
  cases o with
  | cells T cs n =>
    simp only [renO] at h ⊢
    cases h with
    | cells _ _ c fz hl hz hv => exact .cells T _ c fz (by simpa using hl) hz (renL_back hs cs (fun i => c.getD i undef) hv)
  | map es =>
    simp only [renO] at h ⊢
    cases h with
    | map _ xs clock hl hv hb hd =>
      refine .map _ xs clock (by simpa using hl) (fun i e y he hy => ?_) hb hd
      rw [List.getElem?_map, List.getElem?_map] at he
      simp only [Option.map_eq_some_iff] at he
      obtain ⟨_, ⟨e0, h0, rfl⟩, rfl⟩ := he
      have := hv i (renV ρ' e0.1, renV ρ' e0.2) y (by rw [List.getElem?_map, h0]; rfl) hy
      exact ⟨renV_back hs _ this.1, renV_back hs _ this.2⟩
  | _ => simpa only [renO] using h
theorem own_map {F : Froz} {w : World} {h1 h2 : Hp} (hns : h2.ns = h1.ns) (hmem : ∀ b o, (b, o) ∈ h2 → ∃ o1, (b, o1) ∈ h1 ∧ ∀ x, OR F o1 x → OR F o x) (ho : Own F h1 w) : Own F h2 w ∧ Trans F h1 w F h2 w := by
  refine ⟨⟨by rw [hns]; exact ho.nodup, fun b o hm => ?_, by rw [hns]; exact ho.off, ho.frz, ho.gl⟩, ?_⟩
  · obtain ⟨o1, h3, h4⟩ := hmem b o hm
    obtain ⟨x, hx, r⟩ := ho.own b _ h3
    exact ⟨x, hx, h4 x r⟩
  · have t1 := Trans.refl F h1 w
    exact ⟨t1.mono, t1.size, t1.keep, fun b hb => t1.names b (by rw [← hns]; exact hb), t1.fr, t1.os, t1.tape, t1.output, t1.drn⟩
end Go.Fw
