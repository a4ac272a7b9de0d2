/- A part of the proof: CxO -/
import Derived.Test.YtmohgegpcfkooaaGreatDoorCxI
set_option linter.all false
set_option linter.unusedSectionVars false
set_option linter.unusedVariables false
set_option linter.unusedSimpArgs false
namespace Go.Fw
variable [Gl]
variable {P : Program} {ρr : Option Nat} {n nb : Nat} {Q : LPo} {arr : Array Oper} {o : Oper} {os : List Oper} {κ : List Kt} {kn : Kn} {m : Fl} {h hf : Hp} {nx : Nat} {dl : List Nat}
theorem Safe.scope0 {c : Code} (hQ : ∀ l m h nx hf dl, ¬ Q (.goto l) m h nx hf dl) (hs : Safe nb P none n Q (.code c [] kn m h nx hf dl)) : Safe nb P none n Q (.code (.scope c) [] kn m h nx hf dl) := fun hk ρ hg => by
  refine WC.scope ((hs hk ρ hg).mono ?_)
  intro e t' h' dl' q
  cases e with
  | goto l =>
    obtain ⟨ρ', m', h2, nx', hf', a, g, en, q⟩ := q
    exact (hQ _ _ _ _ _ _ q).elim
  | normal => exact q
  | exit id => exact q
  | ret => exact q
  | panic ch => exact q
  | outgrown => exact q
end Go.Fw
