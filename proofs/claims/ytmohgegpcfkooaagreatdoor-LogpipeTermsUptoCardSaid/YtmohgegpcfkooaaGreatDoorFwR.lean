/- A part of the proof: FwR -/
import Derived.Test.YtmohgegpcfkooaaGreatDoorFwQ
import Derived.KernelRfl
set_option linter.all false
set_option linter.unusedSectionVars false
set_option linter.unusedVariables false
set_option linter.unusedSimpArgs false
namespace Go.Fw
variable [Gl]
variable {P : Program} {ρ : Option Nat} {n : Nat} {ops : Array Oper} {t : Fr} {h : Hp} {K : Fr → Hp → Prop} {fuel : Nat} {L : List Nat}
def gdY (ops : Array Oper) (t : Fr) (o : Oper) : Bool := match o.guard with
  | none => true
  | some (j, want) => match (ops[j]?).bind (·.dst) with
    | some e => match t e with
      | some (.bool b) => b == want
      | _ => false
    | none => false
def gdN (ops : Array Oper) (t : Fr) (o : Oper) : Bool := match o.guard with
  | none => false
  | some (j, want) => match (ops[j]?).bind (·.dst) with
    | some e => match t e with
      | some (.bool b) => b == !want
      | some (.tup _) => true
      | _ => false
    | none => false
theorem wStep.yes {o : Oper} (hd : dstOk n o) (hg : gdY ops t o = true) (hw : WOp P ρ n o (rs ops t o) h fun v h' => K (updO t o.dst v) h') : wStep P ρ n ops o t h K := by
  have hw := hw.q
  refine ⟨hd, ?_⟩
  unfold gdY at hg
  split at hg
  · rename_i e; simp only [e]; exact hw
  · rename_i j want e
    simp only [e]
    split at hg
    · rename_i d hj
      simp only [hj]
      split at hg
      · rename_i b hb
        simp only [hb]
        refine ⟨fun _ => hw, fun e => ?_⟩
        simp only [beq_iff_eq] at hg
        subst hg
        cases b <;> simp at e
      · simp at hg
    · simp at hg
theorem wStep.sem {o : Oper} (hd : dstOk n o) (hg : gdY ops t o = true) (hw : WOpQ P ρ n o (rs ops t o) h fun v h' => K (updO t o.dst v) h') : wStep P ρ n ops o t h K := by
  refine ⟨hd, ?_⟩
  unfold gdY at hg
  split at hg
  · rename_i e; simp only [e]; exact hw
  · rename_i j want e
    simp only [e]
    split at hg
    · rename_i d hj
      simp only [hj]
      split at hg
      · rename_i b hb
        simp only [hb]
        refine ⟨fun _ => hw, fun e => ?_⟩
        simp only [beq_iff_eq] at hg
        subst hg
        cases b <;> simp at e
      · simp at hg
    · simp at hg
theorem wStep.no {o : Oper} (hd : dstOk n o) (hg : gdN ops t o = true) (hw : K (updO t o.dst (.tup [])) h) : wStep P ρ n ops o t h K := by
  refine ⟨hd, ?_⟩
  unfold gdN at hg
  split at hg
  · simp at hg
  · rename_i j want e
    simp only [e]
    split at hg
    · rename_i d hj
      simp only [hj]
      split at hg
      · rename_i b hb
        simp only [hb]
        refine ⟨fun e => ?_, fun _ => hw⟩
        simp only [beq_iff_eq] at hg
        subst e
        cases b <;> simp at hg
      · rename_i hb; simp only [hb]; exact hw
      · simp at hg
    · simp at hg
theorem ValS.of {o : Oper} {d : Nat} {v : V} {S : Hp → Prop} (hd : o.dst = some d) (hg : gdY ops t o = true)
    (hv : ∀ h', S h' → ∀ K'' : Fr → Hp → Prop, K'' (upd (rs ops t o) d v) h' → wGo P ρ n ops o [] (rs ops t o) h' K'') : ValS P ρ n ops o t S v := by
  intro h' hs K' hk
  have := hv h' hs (fun t' h2 => ∀ u, t' d = some u → K' (upd t d u) h2) (fun u hu => by
    simp only [upd, if_true, Option.some.injEq] at hu
    subst hu
    rw [hd] at hk; exact hk)
  refine wStep.yes this.1 hg (WOp_mono this.2 fun u h2 hk2 => ?_)
  rw [hd] at hk2 ⊢
  exact hk2 u (by simp [updO, upd])
def anyO (_ : Oper) : Bool := true
theorem wA.val (i : Nat) {o : Oper} {d : Nat} {v : V} (ho : ops.toList[i]? = some o) (hd : o.dst = some d) (hg : gdY ops t o = true)
    (hv : ∀ (h' : Hp) (K'' : Fr → Hp → Prop), K'' (upd (rs ops t o) d v) h' → wGo P ρ n ops o [] (rs ops t o) h' K'')
    (hc : chk ops L i (descs ops i) anyO = true) (hw : wA P ρ n ops fuel (i :: L) (upd t d v) h K) : wA P ρ n ops (fuel + 1) L t h K := by
  rw [Array.getElem?_toList] at ho
  refine wA.first (S := fun _ => True) (v := v) ho (fun oj t h K _ _ hw => hw.mono fun _ _ hk => ⟨hk, trivial⟩) fuel L t h hc trivial (ValS.of hd hg fun h' _ => hv h') ?_
  rw [hd]; exact hw
theorem wA.ld (i : Nat) {o : Oper} {d : Nat} {v : V} (ho : ops.toList[i]? = some o) (hd : o.dst = some d) (hg : gdY ops t o = true)
    (hv : ∀ (h' : Hp), hle h h' → ∀ (K'' : Fr → Hp → Prop), K'' (upd (rs ops t o) d v) h' → wGo P ρ n ops o [] (rs ops t o) h' K'')
    (hc : chk ops L i (descs ops i) calm = true) (hw : wA P ρ n ops fuel (i :: L) (upd t d v) h K) : wA P ρ n ops (fuel + 1) L t h K := by
  rw [Array.getElem?_toList] at ho
  refine wA.first (S := fun h' => hle h h') (v := v) ho (fun oj t h K hsb hs hw => wStep_calm hsb hs hw) fuel L t h hc (hle.refl h) (ValS.of hd hg fun h' hs => hv h' hs) ?_
  rw [hd]; exact hw
theorem wA.skip (i : Nat) {o : Oper} {d : Nat} (ho : ops.toList[i]? = some o) (hd : o.dst = some d) (hg : gdN ops t o = true)
    (hc : chk ops L i (descs ops i) anyO = true) (hw : wA P ρ n ops fuel (i :: L) (upd t d (.tup [])) h K) (hn : d < n := by decide) : wA P ρ n ops (fuel + 1) L t h K := by
  rw [Array.getElem?_toList] at ho
  refine wA.first (S := fun _ => True) (v := .tup []) ho (fun oj t h K _ _ hw => hw.mono fun _ _ hk => ⟨hk, trivial⟩) fuel L t h hc trivial (fun h' _ K' hk => wStep.no (dstOk_of hd hn) hg hk) ?_
  rw [hd]; exact hw
theorem wA.split {e : Nat} {b : Bool} (want : Bool) (hb : t e = some (.bool b)) (h1 : b = want → wA P ρ n ops fuel L (upd t e (.bool want)) h K) (h2 : b = !want → wA P ρ n ops fuel L (upd t e (.bool !want)) h K) : wA P ρ n ops fuel L t h K := by
  by_cases hbw : b = want
  · subst hbw
    have := h1 rfl
    rwa [upd_same_fr hb] at this
  · have hbn : b = !want := by cases b <;> cases want <;> simp_all
    have := h2 hbn
    rwa [← hbn, upd_same_fr hb] at this
def mrg (t t' : Fr) : Fr := fun i => match t' i with
  | some v => some v
  | none => t i
theorem mrg_updO {o : Oper} {d : Option Nat} {v : V} : mrg t (updO (rs ops t o) d v) = updO t d v := by
  funext i
  cases d with
  | none => simp only [updO, mrg, rs]; split <;> simp_all
  | some d =>
    simp only [updO, mrg, upd, rs]
    by_cases hi : i = d
    · simp [hi]
    · simp only [if_neg hi]
      split
      · rename_i u hu; split at hu
        · exact hu.symm
        · simp at hu
      · rfl
theorem wA.eff (i : Nat) {o : Oper} (ho : ops.toList[i]? = some o) (hr : rdy ops L = [i]) (hg : gdY ops t o = true)
    (hw : wGo P ρ n ops o [] (rs ops t o) h fun t' h' => wA P ρ n ops fuel (i :: L) (mrg t t') h' K) : wA P ρ n ops (fuel + 1) L t h K := by
  rw [Array.getElem?_toList] at ho
  rw [wA]
  refine .inr ⟨fun e => by rw [e] at hr; simp at hr, fun j hj oj hoj => ?_⟩
  rw [hr] at hj
  obtain rfl : j = i := by simpa using hj
  obtain rfl : o = oj := by rw [ho] at hoj; exact Option.some.inj hoj
  refine wStep.yes hw.1 hg (WOp_mono hw.2 fun v h' hk => ?_)
  have hk : wA P ρ n ops fuel (j :: L) (mrg t (updO (rs ops t o) o.dst v)) h' K := hk
  rwa [mrg_updO] at hk
theorem wA.back {o : Oper} {d : Nat} {v : V} {L' : List Nat} (hw : wA P ρ n ops fuel L' (upd t d v) h K) : wOps P ρ n ops [] (upd (rs ops t o) d v) h fun t' h' => wA P ρ n ops fuel L' (mrg t t') h' K := by
  show wA P ρ n ops fuel L' (mrg t (updO (rs ops t o) (some d) v)) h K
  rw [mrg_updO]; exact hw
theorem wA.back0 {o : Oper} {L' : List Nat} (hw : wA P ρ n ops fuel L' t h K) : wOps P ρ n ops [] (rs ops t o) h fun t' h' => wA P ρ n ops fuel L' (mrg t t') h' K := by
  have := mrg_updO (ops := ops) (t := t) (o := o) (d := none) (v := .tup [])
  show wA P ρ n ops fuel L' (mrg t (updO (rs ops t o) none (.tup []))) h K
  rw [mrg_updO]; exact hw
theorem wA.done (hr : rdy ops L = []) (hk : K t h) : wA P ρ n ops fuel L t h K := by
  cases fuel with
  | zero => exact ⟨hr, hk⟩
  | succ fuel => rw [wA]; exact .inr ⟨fun _ => hk, fun i hi => by rw [hr] at hi; simp at hi⟩
theorem gPureV {os : List Oper} {d i : Nat} {ty : TypeId} {g : FuncId} {args : Array Operand} {ats : Array TypeId} {us caps : List V} {r : V} {pos : String} {after : Array Edge} {gd : Option (Nat × Bool)} (hf : t i = some (.clo g caps)) (ha : evOs t args.toList = some us)
    (hg : isGo P g = true) (hp : PTri P g (us ++ caps) r) (hw : wOps P ρ n ops os (upd t d r) h K) (hn : d < n := by decide) :
    wGo P ρ n ops ⟨some d, .call { callee := .value (.tmp i), args := args, argTypes := ats }, ty, pos, after, gd⟩ os t h K :=
  gCallV hf ha (CallS.pure hg hp hw) hn
end Go.Fw
