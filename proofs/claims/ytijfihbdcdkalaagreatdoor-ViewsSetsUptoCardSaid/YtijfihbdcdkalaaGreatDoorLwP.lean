/- A part of the proof: LwP -/
import Derived.Test.YtijfihbdcdkalaaGreatDoorLwO
set_option linter.all false
set_option linter.unusedSectionVars false
set_option linter.unusedVariables false
set_option linter.unusedSimpArgs false
namespace Go.Fw
variable [Gl]
variable {P : Program} {ρr : Option Nat} {n nb : Nat} {Q : LPo} {arr : Array Oper} {o : Oper} {os : List Oper} {κ : List Kt} {kn : Kn} {m : Fl} {h hf : Hp} {nx : Nat} {dl : List Nat}
def sgS (sg : Sg) (nb0 nx : Nat) : Nat → Option Nat := fun k => match sgF sg k with
  | some j => some j
  | none => match Nat.blt k nb0 with
    | true => none
    | false => some (nx + (k - nb0))
def rnw (ρ ρ' : Nat → Option Nat) (nb0 nx : Nat) : Nat → Option Nat := fun k => if k < nx then ρ k else ρ' (k - nx + nb0)
theorem rnw_le {ρ ρ' : Nat → Option Nat} {nb0 : Nat} (hf : ∀ k, nx ≤ k → ρ k = none) : rle ρ (rnw ρ ρ' nb0 nx) := fun k c hk => by
  have : k < nx := Nat.lt_of_not_le fun h => by rw [hf k h] at hk; cases hk
  simp only [rnw, if_pos this, hk]
theorem rnw_thr {ρ ρ' : Nat → Option Nat} {nb0 : Nat} {sg : Sg} (hf : ∀ k, nx ≤ k → ρ k = none) (hs : ∀ k, nb0 ≤ k → sgF sg k = none) (ha : agr nb0 (cmp ρ sg) ρ') : thr ρ' (sgS sg nb0 nx) (rnw ρ ρ' nb0 nx) := by
  intro k c hk
  by_cases hlt : k < nb0
  · rw [ha k hlt] at hk
    simp only [cmp] at hk
    cases hb : sgF sg k with
    | none => rw [hb] at hk; cases hk
    | some j =>
      rw [hb] at hk
      exact ⟨j, by simp only [sgS, hb], rnw_le hf j c hk⟩
  · have h1 := hs k (by omega)
    have h2 : Nat.blt k nb0 = false := by
      cases hb : Nat.blt k nb0 with
      | false => rfl
      | true => exact absurd (blt_lt hb) hlt
    refine ⟨nx + (k - nb0), by simp only [sgS, h1, h2], ?_⟩
    simp only [rnw]
    rw [if_neg (by omega), show nx + (k - nb0) - nx + nb0 = k by omega]
    exact hk
theorem thr_ky {ρ' s ρ2 : Nat → Option Nat} (hs : thr ρ' s ρ2) {k : Nat} (hk : (ρ' k).isSome = true) : ky ρ2 (ky s k) = ky ρ' k ∧ (ρ2 (ky s k)).isSome = true := by
  obtain ⟨c, hc⟩ := Option.isSome_iff_exists.1 hk
  obtain ⟨j, h1, h2⟩ := hs k c hc
  simp [ky, h1, h2, hc]
theorem Safe.callL {d nb0 : Nat} {f : FuncId} {as as' : List V} {h0 rest : Hp} {Φ : V → Hp → Nat → Prop} (sg : Sg) (hp : TriL P f as h0 nb0 Φ) (hc : callee? m o = some (f, as')) (has : renL (sgF sg) as = as') (hr : rdyO arr kn m n o = some d) (hok : (isGo P f && sgOk 0 nb0 sg h0) = true)
    (hperm : (relH sg h0 ++ rest).Perm h)
    (hs : ∀ v h' nx', Φ v h' nx' → Safe nb P ρr n Q (.ops arr .no os κ ((d, none) :: kn) ((d, renV (sgS sg nb0 nx) v) :: m) (renH (sgS sg nb0 nx) h' ++ rest) (nx + (nx' - nb0)) hf dl)) :
    Safe nb P ρr n Q (.ops arr .no (o :: os) κ kn m h nx hf dl) := by
  simp only [Bool.and_eq_true] at hok
  obtain ⟨hgo, hok⟩ := hok
  have hod : o.dst = some d := by
    have := hr
    unfold rdyO at this
    split at this
    · split at this
      · split at this
        · simp only [Option.some.injEq] at this; subst this; assumption
        · cases this
      · cases this
    · cases this
  refine Safe.callS hc hr fun ρ hg hn ht => ?_
  subst has
  have hr0 : Rel 0 sg m h nx [] h0 nb0 := ⟨trivial, ⟨_, hperm, List.sublist_append_left _ _⟩, hok⟩
  obtain ⟨_, g0, _⟩ := hr0.ent (nb := 0) ⟨hg.fresh, hg.keys, Nat.zero_le _⟩ []
  have gc : good nb0 (cmp ρ sg) nb0 h0 := ⟨g0.fresh, g0.keys, Nat.le_refl _⟩
  simp only [sgOk, Bool.and_eq_true] at hok
  obtain ⟨⟨⟨ok1, ok2⟩, ok3⟩, ok4⟩ := hok
  obtain ⟨hns, hmem⟩ := relH_ren (ρ := ρ) ok2
  have t0 := (hp (cmp ρ sg) gc).frame (renH ρ rest ++ hf)
  have hpm : (renH ρ (relH sg h0) ++ (renH ρ rest ++ hf)).Perm (renH ρ h ++ hf) := by
    rw [← List.append_assoc, ← renH_app]
    exact (hperm.map _).append_right hf
  have hns2 : (renH (cmp ρ sg) h0 ++ (renH ρ rest ++ hf)).ns = (renH ρ (relH sg h0) ++ (renH ρ rest ++ hf)).ns := by simp only [Hp.ns_append, hns]
  refine CallS.of_tri hgo ?_
  intro F w av ho ha
  have ho1 := ho.perm hpm
  obtain ⟨ho2, tr2⟩ := own_map (F := F) (w := w) hns2 (fun b o hm => by
    rcases List.mem_append.1 hm with hm | hm
    · obtain ⟨p, hp, rfl, hm'⟩ := hmem b o hm
      exact ⟨_, List.mem_append_left _ hm', fun x r => renO_cmp r⟩
    · exact ⟨o, List.mem_append_right _ hm, fun x r => r⟩) ho1
  have ha2 : VRs F (renL (cmp ρ sg) as) av := ⟨by rw [ha.1]; simp, renL_cmp as (fun i => av.getD i undef) ha.2⟩
  refine (t0 F w av ho2 ha2).mono ?_
  rintro e w' ⟨v, x, h', F', he, ⟨h1, rfl, ⟨ρ', v0, h0', nx', a, g, rfl, rfl, hq⟩, hdis⟩, ho', hx, tr⟩
  refine ⟨_, x, _, F', he, ⟨rnw ρ ρ' nb0 nx, renV (sgS sg nb0 nx) v0, renH (sgS sg nb0 nx) h0' ++ rest, nx + (nx' - nb0), hf, ?_, ⟨?_, ?_, ?_⟩, ?_, hs v0 h0' nx' hq⟩, ho', hx, ((Trans.perm hpm).trans tr2).trans tr⟩
  · intro k hk
    have := hg.base
    simp only [rnw, if_pos (show k < nx by omega)]
  · intro k hk
    have := g.base
    simp only [rnw]
    rw [if_neg (by omega)]
    exact g.fresh _ (by omega)
  · intro p hp
    rcases List.mem_append.1 hp with hp | hp
    · obtain ⟨q, hq1, rfl⟩ := List.mem_map.1 hp
      exact (thr_ky (rnw_thr hg.fresh (sgF_lt ok1) a) (g.keys q hq1)).2
    · obtain ⟨c, hc⟩ := Option.isSome_iff_exists.1 (hg.keys p (hperm.subset (List.mem_append_right _ hp)))
      rw [rnw_le hg.fresh _ _ hc]; rfl
  · have := hg.base; omega
  · have hthr := rnw_thr (ρ := ρ) (ρ' := ρ') hg.fresh (sgF_lt ok1) a
    have hle := rnw_le (ρ' := ρ') (nb0 := nb0) hg.fresh
    intro F2 w2 n2 tm ho3 hfr
    have hkr : keysOk ρ rest := fun p hp => hg.keys p (hperm.subset (List.mem_append_right _ hp))
    have hns3 : (renH (rnw ρ ρ' nb0 nx) (renH (sgS sg nb0 nx) h0' ++ rest) ++ hf).ns = (renH ρ' h0' ++ (renH ρ rest ++ hf)).ns := by
      rw [renH_app, List.append_assoc, Hp.ns_append, Hp.ns_append, Hp.ns_append, Hp.ns_append, renH_ns_le hle hkr]
      congr 1
      rw [renH_ns, renH_ns, renH_ns, List.map_map]
      refine List.map_congr_left fun k hk => ?_
      obtain ⟨p, hp, rfl⟩ := List.mem_map.1 hk
      exact (thr_ky hthr (g.keys p hp)).1
    obtain ⟨ho4, tr4⟩ := own_map (F := F2) (w := w2) hns3 (fun b o hm => by
      rw [renH_app, List.append_assoc] at hm
      rcases List.mem_append.1 hm with hm | hm
      · obtain ⟨q, hq1, e1⟩ := List.mem_map.1 hm
        obtain ⟨p, hp1, rfl⟩ := List.mem_map.1 hq1
        simp only [Prod.mk.injEq] at e1
        obtain ⟨rfl, rfl⟩ := e1
        refine ⟨renO ρ' p.2, List.mem_append_left _ (List.mem_map.2 ⟨p, hp1, by rw [(thr_ky hthr (g.keys p hp1)).1]⟩), fun x r => renO_back hthr r⟩
      · rcases List.mem_append.1 hm with hm | hm
        · obtain ⟨p, hp1, e1⟩ := List.mem_map.1 hm
          simp only [Prod.mk.injEq] at e1
          obtain ⟨rfl, rfl⟩ := e1
          exact ⟨renO ρ p.2, List.mem_append_right _ (List.mem_append_left _ (List.mem_map.2 ⟨p, hp1, by rw [ky_le hle (hkr p hp1)]⟩)), fun x r => renO_le hle r⟩
        · exact ⟨o, List.mem_append_right _ (List.mem_append_right _ hm), fun x r => r⟩) ho3
    refine ⟨F2, ho4, ⟨hfr.size, fun i v hv => ?_⟩, tr4⟩
    rw [renT_pu, hod] at hv
    have hat := hfr.at_ i
    rw [hod] at hat
    simp only [updO, upd] at hv hat
    split at hv
    · rename_i hi
      simp only [if_pos hi] at hat
      simp only [Option.some.injEq] at hv
      subst hv
      obtain ⟨x2, h2, r2⟩ := hat _ rfl
      exact ⟨x2, h2, renV_back hthr v0 r2⟩
    · rename_i hi
      simp only [if_neg hi] at hat
      unfold renT at hv hat
      simp only [Option.map_eq_some_iff] at hv
      obtain ⟨u, hu, rfl⟩ := hv
      obtain ⟨x2, h2, r2⟩ := hat (renV ρ u) (by rw [hu]; rfl)
      exact ⟨x2, h2, renV_le hle u r2⟩
end Go.Fw
