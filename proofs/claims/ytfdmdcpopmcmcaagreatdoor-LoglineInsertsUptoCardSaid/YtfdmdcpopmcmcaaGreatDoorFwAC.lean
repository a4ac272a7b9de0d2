/- A part of the proof: FwAC -/
import Derived.Test.YtfdmdcpopmcmcaaGreatDoorFwAB
set_option linter.all false
set_option linter.unusedSectionVars false
set_option linter.unusedVariables false
set_option linter.unusedSimpArgs false
section
namespace Go.Fw
variable [Gl]
variable {P : Program} {ρ : Option Nat} {n : Nat} {ops : Array Oper} {os : List Oper} {t : Fr} {h : Hp} {K : Fr → Hp → Prop}
/-! ### A part of a frozen slice -/
theorem gSliceF {d : Nat} {T e ty : TypeId} {a : Operand} {lo hi : Option Operand} {cs : List V} {len k : Nat} {l r : Option Nat} {pos : String} {after : Array Edge} {gd : Option (Nat × Bool)} (hT : tslice P T = some e) (hk : tsz P e = some k) (ha : evO t a = some (.fslice cs len)) (hl : evB t lo = some l) (hr : evB t hi = some r)
    (h1 : l.getD 0 ≤ r.getD len) (h2 : r.getD len ≤ len) (hw : wOps P ρ n ops os (upd t d (.fslice ((cs.drop (l.getD 0 * k)).take ((r.getD len - l.getD 0) * k)) (r.getD len - l.getD 0))) h K) (hn : d < n := by decide) : wGo P ρ n ops ⟨some d, .slice T a lo hi none, ty, pos, after, gd⟩ os t h K := by
  refine ⟨hn, ?_⟩
  have h3 : evB t none = some none := rfl
  simp only [WOp, evP, ha, hl, hr, h3, evSlice, hT, hk]
  rw [if_pos (by simp [h1, h2]), if_neg (by simp)]
  exact hw
theorem gOfBs2 {d : Nat} {sT dT e ty : TypeId} {x : Operand} {s : BS} {acc : List UInt8} {hx : Hp} {pos : String} {after : Array Edge} {gd : Option (Nat × Bool)} (hs : tslice P sT = some e) (he : tint P e = some .u8) (hd : tisstr P dT = true)
    (ha : evO t x = some (bsV s acc)) (hh : h = bsH e s acc ++ hx) (hn0 : s = none → acc = []) (hw : wOps P ρ n ops os (upd t d (.str acc)) h K) (hn : d < n := by decide) : wGo P ρ n ops ⟨some d, .convert sT dT x, ty, pos, after, gd⟩ os t h K := by
  subst hh
  cases s with
  | none =>
    have := hn0 rfl
    subst this
    exact gOfNil hs he hd ha hw hn
  | some p => exact gOfBytes (b := p.1) (T' := e) (nn := p.2 * 1) hs he hd ha (by simp [bsH, hget]) rfl hw hn
end Go.Fw
end
