/- A part of the proof: CxO -/
import Derived.Test.YtonbppofjlpklaaGreatDoorCxI
set_option linter.all false
set_option linter.unusedSectionVars false
set_option linter.unusedVariables false
set_option linter.unusedSimpArgs false
namespace Go.Fw
variable [Gl]
variable {P : Program} {ρr : Option Nat} {n nb : Nat} {Q : LPo} {arr : Array Oper} {o : Oper} {os : List Oper} {κ : List Kt} {kn : Kn} {m : Fl} {h hf : Hp} {nx : Nat} {dl : List Nat}
theorem Safe.cvT {d : Nat} {T e : TypeId} {a : Operand} {b off len cap nn : Nat} {cs : List V} (hop : o.op = .convert T T a) (hT : tslice P T = some e) (he : tint P e = some .u8) (ha : evX m a = some (.slice b off len cap)) (hg : hget h b = some (.cells 5 cs nn)) (hr : rdyO arr kn m n o = some d)
    (hs : Safe nb P ρr n Q (.ops arr .no os κ ((d, none) :: kn) ((d, .slice b off len cap) :: m) h nx hf dl)) : Safe nb P ρr n Q (.ops arr .no (o :: os) κ kn m h nx hf dl) := by
  letI : Yl := ⟨0⟩
  refine Safe.op hr (LS.real fun ρ hg2 hn ht => ?_)
  have ha' := evX_ren (ρ := ρ) ha
  obtain ⟨c, hc⟩ := evX_vld ht ha
  have hg' := hget_ren (ρ := ρ) hg hn
  rw [ky_eq hc] at hg'
  have e1 : renV ρ (.slice b off len cap) = .slice c off len cap := by simp only [renV, hc]
  rw [e1] at ha'
  refine OpS.convT hop hT he ha' hg' ?_
  rw [← e1]
  exact ⟨ρ, .slice b off len cap, h, nx, hf, agr.refl _ _, hg2, by rw [renT_pu]; exact Ent.refl _ _, hs⟩
end Go.Fw
