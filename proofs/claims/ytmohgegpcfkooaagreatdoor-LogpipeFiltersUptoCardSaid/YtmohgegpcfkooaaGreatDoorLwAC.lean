/- A part of the proof: LwAC -/
import Derived.Test.YtmohgegpcfkooaaGreatDoorLwS
set_option linter.all false
set_option linter.unusedSectionVars false
set_option linter.unusedVariables false
set_option linter.unusedSimpArgs false
namespace Go.Fw
variable [Gl]
variable {P : Program} {ρr : Option Nat} {n nb : Nat} {Q : LPo} {arr : Array Oper} {o : Oper} {os : List Oper} {κ : List Kt} {kn : Kn} {m : Fl} {h hf : Hp} {nx : Nat} {dl : List Nat}
theorem ent_frL {ρ ρ' : Nat → Option Nat} (hr : rle ρ ρ') (M : Fl) (H : Hp) : Ent (renT ρ M) H (renT ρ' M) H := fun F w k tm ho hfr => ⟨F, ho, ⟨hfr.size, fun i v hv => by
  unfold renT at hv
  simp only [Option.map_eq_some_iff] at hv
  obtain ⟨u, hu, rfl⟩ := hv
  obtain ⟨x, hx, r⟩ := hfr.at_ i (renV ρ u) (by simp [renT, hu])
  exact ⟨x, hx, renV_le hr u r⟩⟩, Trans.refl _ _ _⟩
theorem rle_of {ρ ρ' : Nat → Option Nat} (hf : ∀ k, nx ≤ k → ρ k = none) (a : agr nx ρ ρ') : rle ρ ρ' := fun k c hk => by
  have hlt : k < nx := Nat.lt_of_not_le fun h => by rw [hf k h] at hk; cases hk
  rw [a k hlt, hk]
def RndC (nx nx2 : Nat) (hf : Hp) {α : Type} (hp : α → Hp) (I : α → Prop) (B : Code → α → Prop) : LPo := fun e m2 h2 nx3 hf2 _ => hf2 = hf ∧ ∃ b sg, (match e with
    | .normal => I b
    | .ret => B .ret b
    | .exit id => B (.exit id) b
    | .goto l => B (.goto l) b
    | _ => False) ∧ Rel nx sg m2 h2 nx3 [] (hp b) nx2
theorem Safe.rangeC {α : Type} {g : Operand} {ps : Array Tmp} {asg body : Code} {f : FuncId} {caps : List V} {xs : List (List V)} (nx2 : Nat) (hp : α → Hp) (I : Nat → α → Prop) (B : Code → α → Prop) (a0 : α)
    (hit : IterC P f caps xs) (hg : evX m g = some (.clo f caps)) (hgo : (isGo P f && caps.all dryV1 && ps.toList.all (fun p => Nat.blt p n) && Nat.ble nx nx2) = true) (hxs : ∀ a, a ∈ xs → a.length = ps.size ∧ a.all dry = true) (h0 : h = hp a0) (hI : I 0 a0)
    (round : ∀ l k (hk : k < xs.length) b, I k b → Safe nx P (some l) n (AsgQ nx P l n body (RndC nx nx2 hf hp (I (k + 1)) B)) (.code asg [] [] (bindL ps.toList xs[k] m) (hp b) nx2 hf []))
    (hend : ∀ r b, I xs.length b → Safe nb P none n Q (lv .normal κ [] m (hp b) nx2 ((r, .deferred) :: hf) (r :: dl)))
    (hjump : ∀ r b c, B c b → Safe nb P none n Q (.code c κ [] m (hp b) nx2 ((r, .deferred) :: hf) (r :: dl))) :
    Safe nb P none n Q (.code (.rangeFunc g ps asg body) κ kn m h nx hf dl) := by
  subst h0
  simp only [Bool.and_eq_true] at hgo
  have hnx := Nat.le_of_ble_eq_true hgo.2
  replace hgo := hgo.1
  intro hk ρ hgd
  have he := evX_ren (ρ := ρ) hg
  rw [renV, dryL1_ren ρ hgo.1.2] at he
  have hperm : ∀ (r : Nat) (X : Hp), (X ++ (r, AObj.deferred) :: hf).Perm ((r, AObj.deferred) :: (X ++ hf)) := fun r X => List.perm_middle
  refine WC.range (fun k h' => ∃ b ρ', I k b ∧ agr nx ρ ρ' ∧ good nx ρ' nx2 (hp b) ∧ h' = renH ρ' (hp b) ++ hf) (fun c h' => ∃ b ρ', B c b ∧ agr nx ρ ρ' ∧ good nx ρ' nx2 (hp b) ∧ h' = renH ρ' (hp b) ++ hf) he hgo.1.1 hit (fun p hp => blt_lt (List.all_eq_true.1 hgo.2 p hp)) (fun a ha => (hxs a ha).1)
    ⟨a0, ρ, hI, agr.refl _ _, ⟨fun k hk => hgd.fresh k (by omega), hgd.keys, hnx⟩, rfl⟩ ?_ ?_ ?_
  · rintro l k hkl h' ⟨b, ρ', hb, ha, hgd', rfl⟩
    rw [bindL_ren ρ _ _ _ (hxs _ (List.getElem_mem hkl)).2]
    refine WC.ent (ent_frL (rle_of hgd.fresh ha) _ _) ?_
    have hr := round l k hkl b hb knNil ρ' hgd'
    refine hr.mono ?_
    rintro e t' h' dl' ⟨ρ1, m', h2, nx', hf', a, gd, en, q⟩
    cases e with
    | normal =>
      refine WC.ent en (WC.post ((q knNil ρ1 gd).mono ?_))
      rintro e t3 h3 dl3 ⟨ρ2, m3, h4, nx3, hf3, a2, g2, en2, q2⟩
      obtain ⟨rfl, b2, sg, hq, hrel⟩ := q2
      obtain ⟨a3, g3, en3⟩ := hrel.ent g2 hf3
      refine ⟨_, _, en2.trans en3, ?_⟩
      have ha3 := ((ha.trans a).trans a2).trans a3
      cases e with
      | normal => exact ⟨b2, _, hq, ha3, g3, rfl⟩
      | ret => exact ⟨b2, _, hq, ha3, g3, rfl⟩
      | exit id => exact ⟨b2, _, hq, ha3, g3, rfl⟩
      | goto l => exact ⟨b2, _, hq, ha3, g3, rfl⟩
      | _ => exact hq.elim
    | _ => exact q.elim
  · rintro r h' hr ⟨b, ρ', hb, ha, hgd', rfl⟩
    have hs := lv_sound (nb := nb) (P := P) (ρr := none) (n := n) (Q := Q) κ .normal knNil (hend r b hb)
    exact ⟨ρ', m, hp b, nx2, _, fun k hk => ha k (Nat.lt_of_lt_of_le hk hgd.base), ⟨hgd'.fresh, hgd'.keys, Nat.le_trans hgd.base hnx⟩, (ent_frL (rle_of hgd.fresh ha) _ _).trans (Ent.perm (hperm r _)), hs⟩
  · rintro r h' c hr ⟨b, ρ', hb, ha, hgd', rfl⟩
    refine WC.ent ((ent_frL (rle_of hgd.fresh ha) _ _).trans (Ent.perm (hperm r _))) ((hjump r b c hb knNil ρ' ⟨hgd'.fresh, hgd'.keys, Nat.le_trans hgd.base hnx⟩).mono ?_)
    rintro e t4 h5 dl4 ⟨ρ4, m4, h6, nx4, hf4, a4, g4, en4, q4⟩
    exact ⟨ρ4, m4, h6, nx4, hf4, fun k hk => by rw [a4 k hk, ha k (Nat.lt_of_lt_of_le hk hgd.base)], g4, en4, q4⟩
end Go.Fw
