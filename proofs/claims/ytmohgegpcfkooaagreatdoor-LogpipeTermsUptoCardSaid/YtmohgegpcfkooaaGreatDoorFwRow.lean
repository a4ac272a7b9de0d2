/- A part of the proof: FwRow -/
import Derived.Test.YtmohgegpcfkooaaGreatDoorFwY
import Derived.ProofKit
import Derived.OpenShut
set_option linter.all false
set_option linter.unusedSectionVars false
set_option linter.unusedVariables false
set_option linter.unusedSimpArgs false
namespace Go.Fw
open Go.Proofs Go.ChangeShapes Go.WideShapes
variable {P : Program}
theorem vrs_one {F : Froz} {a : V} {x : Value} (h1 : VR F a x) : VRs F [a] #[x] := ⟨rfl, fun i v hv => by
  match i with
  | 0 => simp at hv; subst hv; simpa using h1
  | i + 1 => simp at hv⟩
@[reducible] def glOf (W : World) : Gl := ⟨fun b => W.heap[b]?⟩
theorem own_start (W : World) : @Own (glOf W) (fun b => W.heap[b]?) [] W :=
  letI := glOf W
  ⟨by simp, fun b o h => by simp at h, fun b h => by simp at h, fun b o h => h, FLe.refl _⟩
theorem fcell_start {W : World} {a : Addr} {v : Value} (h : W.cell? a = some v) (hs : a.spot = none) : fcell (fun b => W.heap[b]?) a = some v := by
  unfold World.cell? at h
  unfold fcell
  cases hb : W.heap[a.block]? with
  | none => simp [hb] at h
  | some o => rw [hb] at h; cases o <;> simp_all
theorem calls_start {f : FuncId} {us : List V} {r : V} {args : Array Value} (W : World) (ht : @PTri (glOf W) P f us r) (ha : VRs (fun b => W.heap[b]?) us args) :
    Calls P f args W fun e w' => ∃ x F', e = .returned x ∧ VR F' r x ∧ (∀ b, b < W.heap.size → w'.heap[b]? = W.heap[b]?) ∧ w'.os = W.os ∧ w'.output = W.output ∧ W.heap.size ≤ w'.heap.size ∧ w'.tape = W.tape :=
  letI := glOf W
  ((callsIn_wide (n := 0)).1 (ht (fun b => W.heap[b]?) W args (own_start W) ha)).mono fun e w' ⟨v, x, h', F', he, ⟨hv, hh⟩, o', hr, tr⟩ => by
    subst hv
    exact ⟨x, F', he, hr, fun b hb => tr.keep b hb (by simp), tr.os, tr.output, tr.size, tr.tape⟩
theorem kept_start {W w' : World} (may : MemPlace → Prop) (hk : ∀ b, b < W.heap.size → w'.heap[b]? = W.heap[b]?) (ho : w'.os = W.os) (hu : w'.output = W.output) : W.keptBut w' may := by
  refine ⟨ho, hu, fun i hi => ?_⟩
  rw [hk i hi]
  cases W.heap[i]? with
  | none => trivial
  | some o => cases o <;> simp
section
variable {H : Type} {enc : TypeId × Value → H}
theorem post_start2 {f : Func} {s : ChangeSpec} {apart fresh handsOn : Bool} {W W' : World} {args : Array Value} {v : Value} {ds gs : List (DataW H)} {before pa pv : List MemPlace}
    (hW : DataW.Whole enc P f.params.toList s.vars apart W args.toList ds gs before)
    (hres : ∀ (b : Nat) (sp : Nat → Bool) (hd : Bool), DataW.TrodAll enc P W' b sp hd f.resultTypes.toList (v.resultList f.resultTypes.size) (s.fn H (ds ++ gs)).results [])
    (hargs : (∀ p ∈ before, p.block < W.heap.size) → DataW.TrodAll enc P W' 0 (fun b => decide (b < W.heap.size)) true f.params.toList args.toList (s.fn H (ds ++ gs)).args pa)
    (hvars : DataW.TrodVars enc P W' (fun b => decide (b < W.heap.size)) s.vars (s.fn H (ds ++ gs)).vars pv)
    (hps : before = pa ++ pv) (hk : W.keptBut W' (· ∈ before)) :
    s.post enc P f apart fresh handsOn false W args v W' := by
  refine ⟨ds, gs, before, [], pa, pv, hW, hres _ _ _, hargs hW.lt, hvars, World.keptBut_mono (fun p hp => ⟨hp, ?_⟩) hk, fun h => by simp at h⟩
  rw [hps, List.mem_append] at hp
  exact Or.inr hp
end
end Go.Fw
