/- A part of the proof: CxI, CxO, CxP -/
import Derived.Test.YtmohgegpcfkooaaGreatDoorCxJ
set_option linter.all false
set_option linter.unusedSectionVars false
set_option linter.unusedVariables false
set_option linter.unusedSimpArgs false
section
namespace Go.Fw
variable [Gl] [Yl]
variable {P : Program} {ρr : Option Nat} {n nb : Nat} {m : Fl} {h hf : Hp} {nx : Nat} {dl : List Nat} {o : Oper} {os : List Oper} {arr : Array Oper}
theorem resL1_fix {ν : Nat → Nat} {r : ResultVar} {v : V} (hv : resL1 P m h r = some v) : resL1 P (fixM ν m) (fixH ν h) r = some (fixV ν v) := by
  cases r with
  | tmp i => simp only [resL1] at hv ⊢; rw [lk_fix, hv]; rfl
  | cell a T =>
    simp only [resL1] at hv ⊢
    split at hv
    · rename_i ha
      split at hv
      · rename_i hg
        simp only [lk_fix, ha, Option.map_some, fixV, hget_fix, hg, fixO]
        exact ldAt_fix hv
      · simp at hv
    · simp at hv
theorem resL_fix {ν : Nat → Nat} : ∀ {rs : List ResultVar} {vs : List V}, resL P m h rs = some vs → resL P (fixM ν m) (fixH ν h) rs = some (fixL ν vs)
  | [], vs, hv => by simp only [resL, Option.some.injEq] at hv; subst hv; rfl
  | r :: rs, vs, hv => by
    simp only [resL] at hv
    split at hv
    · rename_i h1
      split at hv
      · rename_i h2
        simp only [Option.some.injEq] at hv; subst hv
        simp only [resL, resL1_fix h1, resL_fix h2, fixL]
      · simp at hv
    · simp at hv
theorem resA_fix {ν : Nat → Nat} {rs : List ResultVar} {v : V} (hv : resA P m h rs = some v) : resA P (fixM ν m) (fixH ν h) rs = some (fixV ν v) := by
  unfold resA at hv ⊢
  cases hl : resL P m h rs with
  | none => rw [hl] at hv; simp at hv
  | some vs =>
    rw [hl] at hv
    rw [resL_fix hl]
    match vs with
    | [] => simp only [Option.some.injEq] at hv; subst hv; rfl
    | [x] => simp only [Option.some.injEq] at hv; subst hv; rfl
    | x :: y :: r => simp only [Option.some.injEq] at hv; subst hv; rfl
theorem dlOk_dfr : ∀ (rs : List Nat), dlOk rs (dfr rs [])
  | [] => trivial
  | r :: rs => ⟨by simp [dfr, hget], by
    have := dlOk_dfr rs
    simpa [dfr, hdel] using this⟩
theorem TriE.of_WE {f : FuncId} {fn : Func} {c : Code} {as : List V} {r : V} {h' h2 : Hp} {nx' : Nat} {m' : Fl} {e : Exit} (hfn : P.funcs[f]? = some fn) (hb : fn.body = some c) (hl : Nat.ble as.length fn.ntmps = true) (hend : endOk e = true) (hres : resA P m' h' fn.results.toList = some r) (hsub : h2.Sublist h')
    (hw : WE nx P none fn.ntmps c (frm 0 as) h nx [] [] fun e1 m1 h1 nx1 hf1 dl1 => e1 = e ∧ m1 = m' ∧ h1 = h' ∧ nx1 = nx' ∧ ∃ rs, hf1 = dfr rs [] ∧ dl1 = rs) : TriE P f as h nx fun a b c => a = r ∧ b = h2 ∧ c = nx' := by
  intro ρ ν hg F w av ho ha
  refine callsIn_of_wp_marks hfn hb (FW_fn none f) ?_ rfl
  have ho2 : Own F (rH ρ ν h ++ []) w := by rw [List.append_nil]; exact ho
  have hfr := frA_r ha (by rw [renL_length, fixL_length]; exact Nat.le_of_ble_eq_true hl)
  have efr : frA (renL ρ (fixL ν as)) = rT ρ ν (frm 0 as) := by
    funext i
    rw [rT_get]
    simp only [frA, lk_frm as 0 i (Nat.zero_le _), Nat.sub_zero, renL_get, fixL_get, Option.map_map]
    rfl
  rw [efr] at hfr
  refine wpIn_mono (hw ρ ν hg F w _ ho2 hfr) ?_
  rintro e1 ⟨tm, ds⟩ w' ⟨t', hh, dl', F', ⟨ρ', ν', m1, h1, nx1, hf1, a, b, g, en, rfl, rfl, rfl, rfl, rs0, rfl, hrs0⟩, ho', hf'', hd, tr⟩
  simp only at hd hf''
  subst hd
  subst hrs0
  obtain ⟨F2, o2, f2, tr2⟩ := en F' w' fn.ntmps tm ho' hf''
  have hres2 : ∀ hf : Hp, (rH ρ' ν' h1 ++ hf).ns.Nodup → resAll P fn.results.toList (rT ρ' ν' m1) (rH ρ' ν' h1 ++ hf) = some (rV ρ' ν' r) := fun hf hn => resA_ren (hf := hf) (vldT_of f2) hn (resA_fix (ν := ν') hres)
  have hs2 : (rH ρ' ν' h2).Sublist (rH ρ' ν' h1) := (hsub.map _).map _
  have g2 : good nx ρ' nx1 h2 := ⟨g.fresh, fun p hp => g.keys p (hsub.subset hp), g.base⟩
  have key := leaves_sound (fn := fn) (R := fun e w' => ∃ v x h' F', e = .returned x ∧ (∃ ρ' ν' v0 h0 nx', agr nx ρ ρ' ∧ agn nx ν ν' ∧ good nx ρ' nx' h0 ∧ v = rV ρ' ν' v0 ∧ h' = rH ρ' ν' h0 ∧ (v0 = r ∧ h0 = h2 ∧ nx' = nx1)) ∧ Own F' h' w' ∧ VR F' v x ∧ Trans F (rH ρ ν h) w F' h' w') _ _ w' (dlOk_ret2 _ hres2 _ _ o2.nodup (dlOk_dfr dl')) o2 f2
    (fun v x h4 w4 ⟨p1, hf2, p2⟩ o4 q4 tr4 => by
      subst p1 p2
      refine ⟨_, x, rH ρ' ν' h2, F2, rfl, ⟨ρ', ν', r, h2, nx1, a, b, g2, rfl, rfl, rfl, rfl, rfl⟩, (o4.sub (List.sublist_append_left _ _)).sub hs2, q4, ?_⟩
      have := (tr.trans (tr2.trans tr4)).trans (Trans.sub (List.sublist_append_left (rH ρ' ν' h1) hf2))
      rw [List.append_nil] at this
      exact this.trans (Trans.sub hs2))
  cases e1 with
  | normal => exact key
  | ret => exact key
  | _ => simp [endOk] at hend
abbrev Orc := FuncId → List V → Option V
def OrcOk (P : Program) (orc : Orc) : Prop := ∀ f as v, orc f as = some v → isGo P f = true ∧ as.all dry = true ∧ dry v = true ∧ PTri P f as v
omit [Yl] in
def lendE (hz : Bool) (cl : List V → Hp → Nat → Option (V × Hp × Nat)) (as : List V) (h : Hp) (nx : Nat) : Option (V × Hp × Nat) := match hz with
  | true => match h with
    | [(b, .cells T cs nn)] => match cs.all dryV1 with
      | true => match (frzX b cs as).all dry with
        | true => match cl (frzX b cs as) [] 0 with
          | some (v, _, _) => match dryV v && dry v with
            | true => some (v, [(b, .cells T cs nn)], nx)
            | false => none
          | none => none
        | false => none
      | false => none
    | _ => none
  | false => none
theorem TriE.lend {f : FuncId} {as : List V} {b nn : Nat} {T : TypeId} {cs : List V} {v : V} (hp : PTri P f (frzX b cs as) v) (hd : cs.all dryV1 = true) (ha : (frzX b cs as).all dry = true) (hv : dryV v = true) (hv2 : dry v = true) :
    TriE P f as [(b, .cells T cs nn)] nx fun a b' c => a = v ∧ b' = [(b, .cells T cs nn)] ∧ c = nx := fun ρ ν hg => by
  obtain ⟨c, hc⟩ := Option.isSome_iff_exists.1 (hg.keys (b, .cells T cs nn) (by simp))
  have t := Tri.lendL (us := fixL ν as) (k := b) (nn := nf ν b nn) (T := T) (cs := cs) hc (by rw [frzX_fix b hd, dryL_fix ν ha, dryL_ren ρ ha]; exact hp) hv
  have e1 : rH ρ ν [(b, AObj.cells T cs nn)] = [(c, .cells T cs (nf ν b nn))] := by
    simp only [rH_cons, ky_eq hc, fixO, renO, dryL1_fix ν hd, dryL1_ren ρ hd]
    rfl
  rw [e1]
  refine t.mono ?_
  rintro u hh ⟨rfl, rfl⟩
  exact ⟨ρ, ν, u, _, nx, agr.refl _ _, agn.refl _ _, hg, by rw [rV, dry_fix _ hv2, dry_ren _ hv2], e1.symm, rfl, rfl, rfl⟩
omit [Yl] in
def eF (P : Program) (orc : Orc) (hz : FuncId → Nat → Bool) (F : Nat) : Nat → Cl
  | 0 => fun _ _ _ _ => none
  | k + 1 => fun f as h nx => match orc f as with
    | some v => some (v, h, nx)
    | none => match lendE (hz f 999999) (eF P orc hz F k f) as h nx with
     | some r => some r
     | none => match isGo P f with
      | true => match P.funcs[f]? with
        | some fn => match fn.body with
          | some c => match Nat.ble as.length fn.ntmps with
            | true => match eC P fn.ntmps (eF P orc hz F k) (hz f) F true c (frm 0 as) h nx with
              | some (e, m', h', nx') => match endOk e with
                | true => match resA P m' h' fn.results.toList with
                  | some r => some (r, gcH r nx h', nx')
                  | none => none
                | false => none
              | none => none
            | false => none
          | none => none
        | none => none
      | false => none
theorem TriE.of_P {f : FuncId} {as : List V} {v : V} (hp : PTri P f as v) (hd : as.all dry = true) (hv : dry v = true) : TriE P f as h nx fun a b c => a = v ∧ b = h ∧ c = nx := fun ρ ν hg => by
  rw [dryL_fix _ hd, dryL_ren _ hd]
  refine (hp.tri _).mono ?_
  rintro u hh ⟨rfl, rfl⟩
  exact ⟨ρ, ν, u, h, nx, agr.refl _ _, agn.refl _ _, hg, by rw [rV, dry_fix _ hv, dry_ren _ hv], rfl, rfl, rfl, rfl⟩
omit [Yl] in
theorem eF_ok {orc : Orc} (ho : OrcOk P orc) (hm : P.follows .mixedOrders = true) (hz : FuncId → Nat → Bool) (F : Nat) : ∀ (k : Nat) (y : Yl), ClOk P (eF P orc hz F k)
  | 0, y => fun f as h nx v h' nx' he => by simp [eF] at he
  | k + 1, y => fun f as h nx v h' nx' he => by
    simp only [eF] at he
    split at he
    · rename_i hv
      simp only [Option.some.injEq, Prod.mk.injEq] at he
      obtain ⟨rfl, rfl, rfl⟩ := he
      obtain ⟨h1, h2, h3, h4⟩ := ho _ _ _ hv
      exact ⟨h1, TriE.of_P h4 h2 h3⟩
    split at he
    · rename_i hl
      simp only [Option.some.injEq] at he
      subst he
      unfold lendE at hl
      split at hl
      · split at hl
        · split at hl
          · rename_i hd
            split at hl
            · rename_i ha
              split at hl
              · rename_i hr
                split at hl
                · rename_i hv
                  simp only [Bool.and_eq_true] at hv
                  simp only [Option.some.injEq, Prod.mk.injEq] at hl
                  obtain ⟨rfl, rfl, rfl⟩ := hl
                  obtain ⟨hgo, ht⟩ := eF_ok ho hm hz F k y _ _ _ _ _ _ _ hr
                  exact ⟨hgo, TriE.lend (PTri.of_E ht ha hv.2) hd ha hv.1 hv.2⟩
                · simp at hl
              · simp at hl
            · simp at hl
          · simp at hl
        · simp at hl
      · simp at hl
    · split at he
      · rename_i hgo
        split at he
        · rename_i hfn
          split at he
          · rename_i hb
            split at he
            · rename_i hl
              split at he
              · rename_i hc
                split at he
                · rename_i hend
                  split at he
                  · rename_i hr
                    simp only [Option.some.injEq, Prod.mk.injEq] at he
                    obtain ⟨rfl, rfl, rfl⟩ := he
                    exact ⟨hgo, TriE.of_WE hfn hb hl hend hr (gcH_sub _ _ _) (eC_ok (eF_ok ho hm hz F k) hm F true _ _ _ _ nx none [] [] _ (fun _ => rfl) hc fun rs _ => ⟨rfl, rfl, rfl, rfl, rs, rfl, by simp⟩)⟩
                  · simp at he
                · simp at he
              · simp at he
            · simp at he
          · simp at he
        · simp at he
      · simp at he
omit [Yl] in
theorem PTri.closed {orc : Orc} (ho : OrcOk P orc) (hm : P.follows .mixedOrders = true) (hz : FuncId → Nat → Bool) (F k : Nat) {f : FuncId} {as : List V} {v : V} {h' : Hp} {nx' : Nat} (he : eF P orc hz F k f as [] 0 = some (v, h', nx')) (hd : as.all dry = true) (hv : dry v = true) : PTri P f as v :=
  letI : Yl := ⟨0⟩
  PTri.of_E ((eF_ok ho hm hz F k ⟨0⟩) _ _ _ _ _ _ _ he).2 hd hv
end Go.Fw
end

section
namespace Go.Fw
variable [Gl]
variable {P : Program} {ρr : Option Nat} {n nb : Nat} {Q : LPo} {arr : Array Oper} {o : Oper} {os : List Oper} {κ : List Kt} {kn : Kn} {m : Fl} {h hf : Hp} {nx : Nat} {dl : List Nat}
end Go.Fw
end

section
namespace Go.Fw
variable [Gl]
variable {P : Program} {ρ : Option Nat} {n : Nat} {o : Oper} {t : Fr} {h : Hp} {K : V → Hp → Prop}
section
variable {ρr : Option Nat} {nb : Nat} {Q : LPo} {arr : Array Oper} {os : List Oper} {κ : List Kt} {kn : Kn} {m : Fl} {hf : Hp} {nx : Nat} {dl : List Nat}
end
end Go.Fw
end
