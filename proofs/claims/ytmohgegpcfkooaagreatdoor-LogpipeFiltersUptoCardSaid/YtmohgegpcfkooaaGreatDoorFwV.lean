/- A part of the proof: FwV, FwX -/
import Derived.Test.YtmohgegpcfkooaaGreatDoorCxP
import Derived.Shelf.Sort.Plain
set_option linter.all false
set_option linter.unusedSectionVars false
set_option linter.unusedVariables false
set_option linter.unusedSimpArgs false
section
namespace Go.Fw
variable [Gl]
open Go.Proofs Go.Sort Go.RowKit
variable {P : Program}
theorem callsIn_of {f : FuncId} {args : Array Value} {w : World} {R : Ending → World → Prop} (h : Calls P f args w R) : CallsIn (FW none) 0 P f args w R := callsIn_wide.2 h
end Go.Fw
end

section
namespace Go.Fw
open Go.Proofs
variable [Gl]
variable {P : Program}
theorem PTri.of_calls {f : FuncId} {us : List V} {r : V} (C : World → Prop) (A : Array Value) (x : Value) (hargs : ∀ F av, VRs F us av → av = A) (hC : ∀ F w, Own F [] w → C w)
    (h : ∀ w, C w → Calls P f A w fun e w' => e = .returned x ∧ ∃ n, w' = w.drewN n) (hr : ∀ F, VR F r x) : PTri P f us r := by
  intro F w av ho ha
  rw [hargs F av ha]
  refine callsIn_of ((h w (hC F w ho)).mono ?_)
  rintro e w' ⟨rfl, n, rfl⟩
  exact ⟨r, x, [], F, rfl, ⟨rfl, rfl⟩, ho.drawn (w.drawn + n), hr F, Trans.drawn F [] w (w.drawn + n)⟩
theorem PTri.of_same {f : FuncId} {us : List V} {r : V} (A : Array Value) (x : Value) (hargs : ∀ F av, VRs F us av → av = A)
    (h : ∀ w, Calls P f A w fun e w' => e = .returned x ∧ w' = w) (hr : ∀ F, VR F r x) : PTri P f us r :=
  PTri.of_calls (fun _ => True) A x hargs (fun _ _ _ => trivial) (fun w _ => (h w).mono fun e w' ⟨h1, h2⟩ => ⟨h1, 0, h2⟩) hr
theorem fcell_gl {F : Froz} {h : Hp} {w : World} (ho : Own F h w) {a : Addr} {v : Value} (hg : fcell Gl.g a = some v) : w.cell? a = some v := fcell_cell ho (fcell_mono ho.gl hg)
end Go.Fw
end
