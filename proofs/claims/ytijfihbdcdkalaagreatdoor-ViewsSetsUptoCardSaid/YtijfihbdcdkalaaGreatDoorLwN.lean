/- A part of the proof: LwN -/
import Derived.Test.YtijfihbdcdkalaaGreatDoorLwM
set_option linter.all false
set_option linter.unusedSectionVars false
set_option linter.unusedVariables false
set_option linter.unusedSimpArgs false
namespace Go.Fw
variable [Gl]
variable {P : Program} {n : Nat} {m : Fl} {h : Hp} {nx nb : Nat}
def TriL (P : Program) (f : FuncId) (as : List V) (h : Hp) (nx : Nat) (Φ : V → Hp → Nat → Prop) : Prop :=
  ∀ ρ, good nx ρ nx h → Tri P f (renL ρ as) (renH ρ h) fun v h' => ∃ ρ' v0 h0 nx', agr nx ρ ρ' ∧ good nx ρ' nx' h0 ∧ v = renV ρ' v0 ∧ h' = renH ρ' h0 ∧ Φ v0 h0 nx'
theorem TriL.mono {f : FuncId} {as : List V} {Φ Ψ : V → Hp → Nat → Prop} (ht : TriL P f as h nx Φ) (hq : ∀ v h k, Φ v h k → Ψ v h k) : TriL P f as h nx Ψ := fun ρ hg =>
  (ht ρ hg).mono fun v h' ⟨ρ', v0, h0, nx', a, g, e1, e2, q⟩ => ⟨ρ', v0, h0, nx', a, g, e1, e2, hq _ _ _ q⟩
inductive FinL (nb : Nat) (P : Program) (rs : List ResultVar) (Φ : V → Hp → Nat → Prop) : Fl → Hp → Nat → Prop where
  | done {m : Fl} {h : Hp} {nx : Nat} {r : V} (hv : resA P m h rs = some r) (hq : Φ r h nx) : FinL nb P rs Φ m h nx
  | rel {m m2 : Fl} {h h2 : Hp} {nx nx2 : Nat} (sg : Sg) (hr : Rel nb sg m h nx m2 h2 nx2) (hs : FinL nb P rs Φ m2 h2 nx2) : FinL nb P rs Φ m h nx
  | frz {m : Fl} {h : Hp} {nx : Nat} (k : Nat) {T : TypeId} {cs : List V} {nn : Nat} (hk : hget h k = some (.cells T cs nn)) (hd : cs.all dryV1 = true) (hs : FinL nb P rs Φ (frzM k cs m) (frzHp k cs (hdel h k)) nx) : FinL nb P rs Φ m h nx
def RetL (nb : Nat) (P : Program) (rs : List ResultVar) (Φ : V → Hp → Nat → Prop) : LPo := fun e m h nx hf dl => (e = .normal ∨ e = .ret) ∧ hf = [] ∧ dl = [] ∧ FinL nb P rs Φ m h nx
theorem FinL.sound {rs : List ResultVar} {Φ : V → Hp → Nat → Prop} {hf : Hp} (hfin : FinL nb P rs Φ m h nx) : ∀ {ρ : Nat → Option Nat}, good nb ρ nx h → ∃ ρ' m2 h2 nx2 r0, agr nb ρ ρ' ∧ good nb ρ' nx2 h2 ∧ Ent (renT ρ m) (renH ρ h ++ hf) (renT ρ' m2) (renH ρ' h2 ++ hf) ∧ resA P m2 h2 rs = some r0 ∧ Φ r0 h2 nx2 := by
  induction hfin with
  | done hv hq => exact fun {ρ} hg => ⟨_, _, _, _, _, agr.refl _ _, hg, Ent.refl _ _, hv, hq⟩
  | rel sg hr hs ih =>
    intro ρ hg
    obtain ⟨a, g, en⟩ := hr.ent hg hf
    obtain ⟨ρ', m2, h2, nx2, r0, a2, g2, e2, hv, hq⟩ := ih g
    exact ⟨ρ', m2, h2, nx2, r0, a.trans a2, g2, en.trans e2, hv, hq⟩
  | frz k hk hd hs ih =>
    intro ρ hg
    obtain ⟨g1, e1⟩ := ent_frz (hf := hf) hg hk hd
    obtain ⟨ρ', m2, h2, nx2, r0, a2, g2, e2, hv, hq⟩ := ih g1
    exact ⟨ρ', m2, h2, nx2, r0, a2, g2, e1.trans e2, hv, hq⟩
theorem frA_renL (as : List V) (ρ : Nat → Option Nat) : frA (renL ρ as) = renT ρ (frm 0 as) := by
  funext i
  simp only [frA, renT, lk_frm as 0 i (Nat.zero_le _), Nat.sub_zero, renL_get]
theorem TriL.of_safe {f : FuncId} {fn : Func} {c : Code} {as : List V} {Φ : V → Hp → Nat → Prop} (hf : P.funcs[f]? = some fn) (hb : fn.body = some c) {rs : Array ResultVar} (hrs : fn.results = rs) (hn : fn.ntmps = n) (hl : Nat.ble as.length n = true)
    (hs : Safe nx P none n (RetL nx P rs.toList Φ) (.code c [] [] (frm 0 as) h nx [] [])) : TriL P f as h nx Φ := by
  intro ρ hg F w av ho ha
  subst hrs
  refine callsIn_of_wp_marks hf hb (FW_fn none f) ?_ rfl
  subst hn
  have hs' := hs knNil ρ hg
  have ho2 : Own F (renH ρ h ++ []) w := by rw [List.append_nil]; exact ho
  have hfr := frA_r ha (by rw [renL_length]; exact Nat.le_of_ble_eq_true hl)
  rw [frA_renL] at hfr
  refine wpIn_mono (hs' F w _ ho2 hfr) ?_
  rintro e ⟨tm, ds⟩ w' ⟨t', h', dl', F', ⟨ρ', m', h2, nx', hf', a, g, en, q⟩, ho', hf'', hd, tr⟩
  simp only at hd hf''
  subst hd
  obtain ⟨he, rfl, rfl, hfin⟩ := q
  obtain ⟨ρ3, m3, h3, nx3, r0, a3, g3, e3, hv, hq⟩ := hfin.sound (hf := []) g
  obtain ⟨F2, o2, f2, tr2⟩ := (en.trans e3) F' w' fn.ntmps tm ho' hf''
  have hres := resA_ren (hf := []) (vldT_of f2) o2.nodup hv
  have key := leaves_sound (fn := fn) (Φ := fun v h' => v = renV ρ3 r0 ∧ h' = renH ρ3 h3 ++ []) (R := fun e w' => ∃ v x h' F', e = .returned x ∧ (∃ ρ' v0 h0 nx', agr nx ρ ρ' ∧ good nx ρ' nx' h0 ∧ v = renV ρ' v0 ∧ h' = renH ρ' h0 ∧ Φ v0 h0 nx') ∧ Own F' h' w' ∧ VR F' v x ∧ Trans F (renH ρ h) w F' h' w') [] (renH ρ3 h3 ++ []) w' ⟨_, hres, rfl, rfl⟩ o2 f2
    (fun v x h4 w4 ⟨p1, p2⟩ o4 q4 tr4 => ⟨v, x, h4, F2, rfl, ⟨ρ3, r0, h3, nx3, a.trans a3, g3, p1, by rw [p2, List.append_nil], hq⟩, o4, q4, by have := tr.trans (tr2.trans tr4); rwa [List.append_nil] at this⟩)
  cases e with
  | normal => exact key
  | ret => exact key
  | _ => rcases he with h | h <;> cases h
end Go.Fw
