/- A part of the proof: FwX -/
import Derived.Test.YtfdmdcpopmcmcaaGreatDoorFwV
set_option linter.all false
set_option linter.unusedSectionVars false
set_option linter.unusedVariables false
set_option linter.unusedSimpArgs false
section
namespace Go.Fw
open Go.Proofs
variable [Gl]
variable {P : Program}
theorem YieldS.sub {l : Nat} {us : List V} {h h2 : Hp} {K : V → Hp → Prop} (hs : h.Sublist h2) (hy : YieldS P l us h K) : YieldS P l us h2 K :=
  fun F w av ρ o a next Q' ho ha hk => hy F w av ρ o a next Q' (ho.sub hs) ha fun v x h' F' w' k o' r tr => hk v x h' F' w' k o' r ((Trans.sub hs).trans tr)
/-- Memory that is given away for good. -/
theorem Tri.give {f : FuncId} {us us' : List V} {r : V} {b nn : Nat} {T : TypeId} {cs : List V} (hp : PTri P f us' r) (hu : us.map (frzV b cs) = us') :
    Tri P f us [(b, .cells T cs nn)] fun v h' => v = r ∧ h' = [] := by
  intro F w av ho ha
  obtain ⟨F1, o1, tr1, hv⟩ := own_freeze ho (b := b) (T := T) (cs := cs) (nn := nn) (by simp [hget])
  have e : frzH b cs (hdel [(b, AObj.cells T cs nn)] b) = [] := by simp [hdel, frzH]
  rw [e] at o1 tr1
  have ha' : VRs F1 us' av := by
    refine ⟨by rw [← hu]; simpa using ha.1, fun i v hv' => ?_⟩
    rw [← hu, List.getElem?_map] at hv'
    obtain ⟨u, hu', rfl⟩ := Option.map_eq_some_iff.1 hv'
    exact hv _ _ (ha.2 i u hu')
  refine (hp F1 w av o1 ha').mono ?_
  rintro e w' ⟨v, x, h', F', rfl, hΦ, o', r', tr⟩
  exact ⟨v, x, h', F', rfl, hΦ, o', r', tr1.trans tr⟩
theorem Own.nil {F : Froz} {h : Hp} {w : World} (ho : Own F h w) : Own F [] w := ho.sub (List.nil_sublist _)
/-- A contract of the library's, of a function that leaves the world as it is but for draws. -/
theorem PTri.of_calls {f : FuncId} {us : List V} {r : V} (C : World → Prop) (A : Array Value) (x : Value) (hargs : ∀ F av, VRs F us av → av = A) (hC : ∀ F w, Own F [] w → C w)
    (h : ∀ w, C w → Calls P f A w fun e w' => e = .returned x ∧ ∃ n, w' = w.drewN n) (hr : ∀ F, VR F r x) : PTri P f us r := by
  intro F w av ho ha
  rw [hargs F av ha]
  refine callsIn_of ((h w (hC F w ho)).mono ?_)
  rintro e w' ⟨rfl, n, rfl⟩
  exact ⟨r, x, [], F, rfl, ⟨rfl, rfl⟩, ho.drawn (w.drawn + n), hr F, Trans.drawn F [] w (w.drawn + n)⟩
theorem PTri.of_same {f : FuncId} {us : List V} {r : V} (A : Array Value) (x : Value) (hargs : ∀ F av, VRs F us av → av = A)
    (h : ∀ w, Calls P f A w fun e w' => e = .returned x ∧ w' = w) (hr : ∀ F, VR F r x) : PTri P f us r :=
  PTri.of_calls (fun _ => True) A x hargs (fun _ _ _ => trivial) (fun w _ => (h w).mono fun e w' ⟨h1, h2⟩ => ⟨h1, 0, h2⟩) hr
theorem vrs_str2 {s u : List UInt8} (F : Froz) (av : Array Value) (h : VRs F [.str s, .str u] av) : av = #[.string ⟨s.toArray⟩, .string ⟨u.toArray⟩] := by
  have h0 := (h.2 0 _ rfl).str_inv
  have h1 := (h.2 1 _ rfl).str_inv
  have hs := h.1
  simp at hs
  obtain ⟨L⟩ := av
  match L, hs with
  | [x, y], _ => simp at h0 h1; rw [h0, h1]
theorem fcell_gl {F : Froz} {h : Hp} {w : World} (ho : Own F h w) {a : Addr} {v : Value} (hg : fcell Gl.g a = some v) : w.cell? a = some v := fcell_cell ho (fcell_mono ho.gl hg)
end Go.Fw
end
