/- A part of the proof: FwR -/
import Derived.Test.YtmohgegpcfkooaaGreatDoorFwQ
import Derived.KernelRfl
set_option linter.all false
set_option linter.unusedSectionVars false
set_option linter.unusedVariables false
set_option linter.unusedSimpArgs false
namespace Go.Fw
variable [Gl]
variable {P : Program} {ρ : Option Nat} {n : Nat} {ops : Array Oper} {t : Fr} {h : Hp} {K : Fr → Hp → Prop} {fuel : Nat} {L : List Nat}
def gdY (ops : Array Oper) (t : Fr) (o : Oper) : Bool := match o.guard with
  | none => true
  | some (j, want) => match (ops[j]?).bind (·.dst) with
    | some e => match t e with
      | some (.bool b) => b == want
      | _ => false
    | none => false
def gdN (ops : Array Oper) (t : Fr) (o : Oper) : Bool := match o.guard with
  | none => false
  | some (j, want) => match (ops[j]?).bind (·.dst) with
    | some e => match t e with
      | some (.bool b) => b == !want
      | some (.tup _) => true
      | _ => false
    | none => false
theorem wStep.yes {o : Oper} (hd : dstOk n o) (hg : gdY ops t o = true) (hw : WOp P ρ n o (rs ops t o) h fun v h' => K (updO t o.dst v) h') : wStep P ρ n ops o t h K := by
  have hw := hw.q
  refine ⟨hd, ?_⟩
  unfold gdY at hg
  split at hg
  · rename_i e; simp only [e]; exact hw
  · rename_i j want e
    simp only [e]
    split at hg
    · rename_i d hj
      simp only [hj]
      split at hg
      · rename_i b hb
        simp only [hb]
        refine ⟨fun _ => hw, fun e => ?_⟩
        simp only [beq_iff_eq] at hg
        subst hg
        cases b <;> simp at e
      · simp at hg
    · simp at hg
theorem wStep.sem {o : Oper} (hd : dstOk n o) (hg : gdY ops t o = true) (hw : WOpQ P ρ n o (rs ops t o) h fun v h' => K (updO t o.dst v) h') : wStep P ρ n ops o t h K := by
  refine ⟨hd, ?_⟩
  unfold gdY at hg
  split at hg
  · rename_i e; simp only [e]; exact hw
  · rename_i j want e
    simp only [e]
    split at hg
    · rename_i d hj
      simp only [hj]
      split at hg
      · rename_i b hb
        simp only [hb]
        refine ⟨fun _ => hw, fun e => ?_⟩
        simp only [beq_iff_eq] at hg
        subst hg
        cases b <;> simp at e
      · simp at hg
    · simp at hg
theorem wStep.no {o : Oper} (hd : dstOk n o) (hg : gdN ops t o = true) (hw : K (updO t o.dst (.tup [])) h) : wStep P ρ n ops o t h K := by
  refine ⟨hd, ?_⟩
  unfold gdN at hg
  split at hg
  · simp at hg
  · rename_i j want e
    simp only [e]
    split at hg
    · rename_i d hj
      simp only [hj]
      split at hg
      · rename_i b hb
        simp only [hb]
        refine ⟨fun e => ?_, fun _ => hw⟩
        simp only [beq_iff_eq] at hg
        subst e
        cases b <;> simp at hg
      · rename_i hb; simp only [hb]; exact hw
      · simp at hg
    · simp at hg
def anyO (_ : Oper) : Bool := true
theorem wA.skip (i : Nat) {o : Oper} {d : Nat} (ho : ops.toList[i]? = some o) (hd : o.dst = some d) (hg : gdN ops t o = true)
    (hc : chk ops L i (descs ops i) anyO = true) (hw : wA P ρ n ops fuel (i :: L) (upd t d (.tup [])) h K) (hn : d < n := by decide) : wA P ρ n ops (fuel + 1) L t h K := by
  rw [Array.getElem?_toList] at ho
  refine wA.first (S := fun _ => True) (v := .tup []) ho (fun oj t h K _ _ hw => hw.mono fun _ _ hk => ⟨hk, trivial⟩) fuel L t h hc trivial (fun h' _ K' hk => wStep.no (dstOk_of hd hn) hg hk) ?_
  rw [hd]; exact hw
end Go.Fw
