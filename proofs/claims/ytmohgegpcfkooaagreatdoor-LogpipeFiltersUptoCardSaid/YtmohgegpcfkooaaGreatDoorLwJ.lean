/- A part of the proof: LwJ -/
import Derived.Test.YtmohgegpcfkooaaGreatDoorLwG
import Derived.KernelRfl
set_option linter.all false
set_option linter.unusedSectionVars false
set_option linter.unusedVariables false
set_option linter.unusedSimpArgs false
namespace Go.Fw
variable [Gl]
variable {P : Program} {ρr : Option Nat} {n nb : Nat} {Q : LPo} {arr : Array Oper} {o : Oper} {os : List Oper} {κ : List Kt} {kn : Kn} {m : Fl} {h hf : Hp} {nx : Nat} {dl : List Nat} {fu : Nat} {L : List Nat}
variable {K : KD}
theorem renT_c {ρ : Nat → Option Nat} {m : Fl} {d : Nat} {v : V} : upd (renT ρ m) d (renV ρ v) = renT ρ ((d, v) :: m) := (renT_cons ρ m d v).symm
theorem vldT.cons {ρ : Nat → Option Nat} {m : Fl} {d : Nat} {v : V} (ht : vldT ρ m) (hv : vld ρ v) : vldT ρ ((d, v) :: m) := fun i u hu => by
  simp only [lk] at hu
  cases hb : Nat.beq i d with
  | true => rw [hb] at hu; simp only [cond_true, Option.some.injEq] at hu; subst hu; exact hv
  | false => rw [hb] at hu; exact ht i u hu
end Go.Fw
