/- A part of the proof: CxJ -/
import Derived.Test.YtmohgegpcfkooaaGreatDoorCxN
set_option linter.all false
set_option linter.unusedSectionVars false
set_option linter.unusedVariables false
set_option linter.unusedSimpArgs false
namespace Go.Fw
variable [Gl] [Yl]
variable {P : Program} {ρr : Option Nat} {n nb : Nat} {m : Fl} {h hf : Hp} {nx : Nat} {dl : List Nat} {o : Oper} {os : List Oper} {arr : Array Oper} {c : Code} {Q : LPo}
omit [Yl] in
def iterX (P : Program) (cl : Cl) (F : Nat) (f : FuncId) (caps : List V) : Option (List (List V)) := match P.funcs[f]? with
  | some fn => match fn.body with
    | some c => match eYC P fn.ntmps cl none F c (frm 0 (Yv :: caps)) [] 0 [] false with
      | some L => match L.filter fun a => !a.2.2.2.2.2 with
        | [a] => some a.2.2.2.2.1.reverse
        | _ => none
      | none => none
    | none => none
  | none => none
omit [Yl] in
def iterK (P : Program) (cl : Cl) (F : Nat) (f : FuncId) (caps : List V) (xs : List (List V)) : Bool := match P.funcs[f]? with
  | some fn => match fn.body with
    | some c => match Nat.ble (caps.length + 1) fn.ntmps && caps.all dry && fn.results.toList.isEmpty with
      | true => match eYC P fn.ntmps cl (some xs) F c (frm 0 (Yv :: caps)) [] 0 [] false with
        | some L => L.all fun a => endOk a.1 && (a.2.2.2.2.2 || Nat.beq a.2.2.2.2.1.length xs.length)
        | none => false
      | false => false
    | none => false
  | none => false
omit [Yl] in
theorem iterK_ok {cl : Cl} (hcl : ∀ y : Yl, ClOk P cl) (hm : P.follows .mixedOrders = true) {F : Nat} {f : FuncId} {caps : List V} {xs : List (List V)} (hk : iterK P cl F f caps xs = true) : IterC P f caps xs := by
  unfold iterK at hk
  split at hk
  · rename_i hfn
    split at hk
    · rename_i hb
      split at hk
      · rename_i hc
        simp only [Bool.and_eq_true] at hc
        split at hk
        · rename_i he
          exact iterC_ok hcl hm hfn hb hc.1.1 hc.1.2 (by simpa using hc.2) he hk
        · simp at hk
      · simp at hk
    · simp at hk
  · simp at hk
abbrev OutC := Exit × Fl × Hp × Nat
omit [Yl] in
def eRounds (ev : Fl → Hp → Nat → Option OutC) : List Fl → Hp → Nat → Option (Option Code × Hp × Nat)
  | [], h, nx => some (none, h, nx)
  | m :: r, h, nx => match ev m h nx with
    | some (.normal, _, h', nx') => eRounds ev r h' nx'
    | some (.ret, _, h', nx') => some (some .ret, h', nx')
    | some (.exit id, _, h', nx') => some (some (.exit id), h', nx')
    | _ => none
omit [Yl] in
def contL (h : Hp) : List Nat → List Nat
  | [] => []
  | b :: r => match hget h b with
    | some (.cells _ cs _) => cs.flatMap lbs ++ contL h r
    | _ => contL h r
omit [Yl] in
def preL (hz dr : Bool) (arr : Array Oper) (m : Fl) (h : Hp) : List Nat := match hz with
  | true => contL h (basesL m arr.toList) ++ (match dr && needF arr with
    | true => minusL (storesL m arr.toList) (basesL m arr.toList)
    | false => [])
  | false => match dr && needF arr with
    | true => minusL (storesL m arr.toList) (basesL m arr.toList)
    | false => []
omit [Yl] in
def eC (P : Program) (n : Nat) (cl : Cl) (hz : Nat → Bool) : Nat → Bool → Code → Fl → Hp → Nat → Option OutC
  | 0, _, _, _, _, _ => none
  | f + 1, rg, c, m, h, nx => match c with
    | .skip => some (.normal, m, h, nx)
    | .label _ => some (.normal, m, h, nx)
    | .exit id => some (.exit id, m, h, nx)
    | .ret => some (.ret, m, h, nx)
    | .seq x y => match eC P n cl hz f rg x m h nx with
      | some (.normal, m', h', nx') => eC P n cl hz f rg y m' h' nx'
      | r => r
    | .cond cx x y => match evX m cx with
      | some (.bool true) => eC P n cl hz f rg x m h nx
      | some (.bool false) => eC P n cl hz f rg y m h nx
      | _ => none
    | .block id x => match eC P n cl hz f rg x m h nx with
      | some (.exit id', m', h', nx') => match Nat.beq id' id with
        | true => some (.normal, m', h', nx')
        | false => some (.exit id', m', h', nx')
      | r => r
    | .loop x => match eC P n cl hz f rg x m h nx with
      | some (.normal, m', h', nx') => eC P n cl hz f rg (.loop x) m' h' nx'
      | r => r
    | .scope x => match rg with
      | true => match eC P n cl hz f rg x m h nx with
        | some (e, m', h', nx') => match notGo e with
          | true => some (e, m', h', nx')
          | false => none
        | none => none
      | false => none
    | .rangeFunc g ps asg body => match rg with
      | true => match evX m g with
        | some (.clo _ caps0) => match frzAll 1000 (caps0.flatMap lbs) m h with
          | (m, h) => match evX m g with
            | some (.clo fi caps) => match isGo P fi && caps.all dryV1 && ps.toList.all (fun p => Nat.blt p n) with
              | true => match iterX P cl f fi caps with
                | some xs => match iterK P cl f fi caps xs && xs.all fun a => Nat.beq a.length ps.size && a.all dry with
                  | true => match eRounds (fun m h nx => match eC P n cl hz f false asg m h nx with
                      | some (.normal, m', h', nx') => eC P n cl hz f false body m' h' nx'
                      | _ => none) (xs.map fun a => bindL ps.toList a m) h nx with
                    | some (none, h', nx') => some (.normal, m, h', nx')
                    | some (some c', h', nx') => match c' with
                      | .ret => some (.ret, m, h', nx')
                      | .exit id => some (.exit id, m, h', nx')
                      | _ => none
                    | none => none
                  | false => none
                | none => none
              | false => none
            | _ => none
        | _ => none
      | false => none
    | .region id arr dr => match frzAll 1000 (preL (hz id) dr arr m h) m h with
      | (m, h) => match dr with
        | false => match eOps P n cl arr arr.toList m h nx with
          | some (m', h', nx') => some (.normal, m', h', nx')
          | none => none
        | true => match eDr P n cl arr arr.size [] m h nx with
          | some (m', h', nx') => some (.normal, m', h', nx')
          | none => none
    | _ => none
def dfr (rs : List Nat) (hf : Hp) : Hp := rs.map (fun r => (r, AObj.deferred)) ++ hf
theorem eC_ok {cl : Cl} {hz : Nat → Bool} (hcl : ∀ y : Yl, ClOk P cl) (hm : P.follows .mixedOrders = true) : ∀ (f : Nat) (rg : Bool) (c : Code) (m : Fl) (h : Hp) (nx : Nat) {e : Exit} {m' : Fl} {h' : Hp} {nx' : Nat} (nb : Nat) (ρr : Option Nat) (hf : Hp) (dl : List Nat) (Q : LPo), (rg = true → ρr = none) → eC P n cl hz f rg c m h nx = some (e, m', h', nx') → (∀ rs, (rg = false → rs = []) → Q e m' h' nx' (dfr rs hf) (rs ++ dl)) → WE nb P ρr n c m h nx hf dl Q := by
  intro f
  induction f using Nat.strongRecOn with
  | ind f ih =>
    intro rg c m h nx e m' h' nx' nb ρr hf dl Q hrg he hq
    have hq0 : Q e m' h' nx' hf dl := hq [] (fun _ => rfl)
    cases f with
    | zero => simp [eC] at he
    | succ f =>
      have ih' := ih f (Nat.lt_succ_self f)
      have assoc : ∀ (rs2 rs1 : List Nat), dfr rs2 (dfr rs1 hf) = dfr (rs2 ++ rs1) hf := fun a b => by simp [dfr]
      cases c with
      | skip => simp only [eC, Option.some.injEq, Prod.mk.injEq] at he; obtain ⟨rfl, rfl, rfl, rfl⟩ := he; exact WE.skip hq0
      | label l => simp only [eC, Option.some.injEq, Prod.mk.injEq] at he; obtain ⟨rfl, rfl, rfl, rfl⟩ := he; exact WE.label hq0
      | exit id => simp only [eC, Option.some.injEq, Prod.mk.injEq] at he; obtain ⟨rfl, rfl, rfl, rfl⟩ := he; exact WE.exit hq0
      | ret => simp only [eC, Option.some.injEq, Prod.mk.injEq] at he; obtain ⟨rfl, rfl, rfl, rfl⟩ := he; exact WE.ret hq0
      | seq x y =>
        simp only [eC] at he
        split at he
        · rename_i hx
          refine WE.seq (ih' rg x _ _ _ nb ρr hf dl _ hrg hx fun rs hrs => ?_)
          refine ih' rg y _ _ _ nb ρr _ _ _ hrg he fun rs2 hrs2 => ?_
          rw [assoc, ← List.append_assoc]
          exact hq _ fun e => by rw [hrs e, hrs2 e]; rfl
        · rename_i hne
          refine WE.seq (ih' rg x _ _ _ nb ρr hf dl _ hrg he fun rs hrs => ?_)
          cases e with
          | normal => exact absurd he (hne m' h' nx')
          | _ => exact hq rs hrs
      | cond cx x y =>
        simp only [eC] at he
        split at he
        · rename_i hc; exact WE.cond hc (fun _ => ih' rg x _ _ _ nb ρr hf dl _ hrg he hq) (fun e => by simp at e)
        · rename_i hc; exact WE.cond hc (fun e => by simp at e) (fun _ => ih' rg y _ _ _ nb ρr hf dl _ hrg he hq)
        · simp at he
      | block id x =>
        simp only [eC] at he
        split at he
        · rename_i id' m1 h1 nx1 hx
          refine WE.block (ih' rg x _ _ _ nb ρr hf dl _ hrg hx fun rs hrs => ?_)
          simp only [blkL]
          split at he
          · rename_i hb
            simp only [Option.some.injEq, Prod.mk.injEq] at he
            obtain ⟨rfl, rfl, rfl, rfl⟩ := he
            rw [if_pos (Nat.eq_of_beq_eq_true hb)]; exact hq rs hrs
          · rename_i hb
            simp only [Option.some.injEq, Prod.mk.injEq] at he
            obtain ⟨rfl, rfl, rfl, rfl⟩ := he
            rw [if_neg (fun e => by rw [e, Nat.beq_refl] at hb; cases hb)]; exact hq rs hrs
        · rename_i hne
          refine WE.block (ih' rg x _ _ _ nb ρr hf dl _ hrg he fun rs hrs => ?_)
          cases e with
          | exit id' => exact absurd he (hne id' m' h' nx')
          | _ => exact hq rs hrs
      | loop x =>
        refine WE.loopN (fun j m h nx hf' dl' => j ≤ f + 1 ∧ ∃ rs, (rg = false → rs = []) ∧ hf' = dfr rs hf ∧ dl' = rs ++ dl ∧ ∃ e m' h' nx', eC P n cl hz j rg (.loop x) m h nx = some (e, m', h', nx') ∧ ∀ rs, (rg = false → rs = []) → Q e m' h' nx' (dfr rs hf) (rs ++ dl)) ?_ (j := f + 1) ⟨Nat.le_refl _, [], fun _ => rfl, rfl, rfl, e, m', h', nx', he, hq⟩
        rintro j m1 h1 nx1 hf1 dl1 ⟨hj, rs, hrs, rfl, rfl, e1, m2, h2, nx2, he1, hq1⟩
        cases j with
        | zero => simp [eC] at he1
        | succ j =>
          have ihj := ih j (by omega)
          simp only [eC] at he1
          split at he1
          · rename_i hx
            refine ihj rg x _ _ _ nb ρr _ _ _ hrg hx fun rs2 hrs2 => ?_
            exact ⟨j, Nat.lt_succ_self j, by omega, rs2 ++ rs, fun e => by rw [hrs e, hrs2 e]; rfl, assoc _ _, by rw [List.append_assoc], e1, m2, h2, nx2, he1, hq1⟩
          · rename_i hne
            refine ihj rg x _ _ _ nb ρr _ _ _ hrg he1 fun rs2 hrs2 => ?_
            have h3 := hq1 (rs2 ++ rs) (fun e => by rw [hrs e, hrs2 e]; rfl)
            rw [← assoc, List.append_assoc] at h3
            cases e1 with
            | normal => exact absurd he1 (hne m2 h2 nx2)
            | _ => exact h3
      | scope x =>
        simp only [eC] at he
        split at he
        · split at he
          · rename_i hx
            split at he
            · rename_i hng
              simp only [Option.some.injEq, Prod.mk.injEq] at he
              obtain ⟨rfl, rfl, rfl, rfl⟩ := he
              have e0 := hrg rfl
              subst e0
              exact WE.scope (ih' true x _ _ _ nb none hf dl _ hrg hx fun rs hrs => ⟨hng, hq rs hrs⟩)
            · simp at he
          · simp at he
        · simp at he
      | rangeFunc g ps asg body =>
        simp only [eC] at he
        split at he
        · split at he
          · rename_i f0 caps0 hg0
            refine WE.frzAll 1000 (caps0.flatMap lbs) m h ?_
            generalize frzAll 1000 (caps0.flatMap lbs) m h = mh at he ⊢
            obtain ⟨m1, h1⟩ := mh
            simp only at he ⊢
            split at he
            · rename_i fi caps hg
              split at he
              · rename_i hc
                simp only [Bool.and_eq_true] at hc
                split at he
                · rename_i xs hxs
                  split at he
                  · rename_i hk
                    simp only [Bool.and_eq_true] at hk
                    have e0 := hrg rfl
                    subst e0
                    have hall : ∀ a, a ∈ xs → a.length = ps.size ∧ a.all dry = true := fun a ha => by
                      have := List.all_eq_true.1 hk.2 a ha
                      simp only [Bool.and_eq_true] at this
                      exact ⟨nbeq this.1, this.2⟩
                    have hrd : ∃ oc h2 nx2, eRounds (fun m h nx => match eC P n cl hz f false asg m h nx with
                      | some (.normal, m', h', nx') => eC P n cl hz f false body m' h' nx'
                      | _ => none) (xs.map fun a => bindL ps.toList a m1) h1 nx = some (oc, h2, nx2) ∧ (match oc with
                        | none => (e = .normal ∧ m' = m1 ∧ h' = h2 ∧ nx' = nx2)
                        | some .ret => (e = .ret ∧ m' = m1 ∧ h' = h2 ∧ nx' = nx2)
                        | some (.exit id) => (e = .exit id ∧ m' = m1 ∧ h' = h2 ∧ nx' = nx2)
                        | _ => False) := by
                      split at he
                      · rename_i hr
                        simp only [Option.some.injEq, Prod.mk.injEq] at he
                        obtain ⟨rfl, rfl, rfl, rfl⟩ := he
                        exact ⟨_, _, _, hr, rfl, rfl, rfl, rfl⟩
                      · rename_i hr
                        split at he
                        · simp only [Option.some.injEq, Prod.mk.injEq] at he
                          obtain ⟨rfl, rfl, rfl, rfl⟩ := he
                          exact ⟨_, _, _, hr, rfl, rfl, rfl, rfl⟩
                        · simp only [Option.some.injEq, Prod.mk.injEq] at he
                          obtain ⟨rfl, rfl, rfl, rfl⟩ := he
                          exact ⟨_, _, _, hr, rfl, rfl, rfl, rfl⟩
                        · simp at he
                      · simp at he
                    obtain ⟨oc, h2, nx2, hr, hend⟩ := hrd
                    refine WE.range (fun k h nx => eRounds (fun m h nx => match eC P n cl hz f false asg m h nx with
                      | some (.normal, m', h', nx') => eC P n cl hz f false body m' h' nx'
                      | _ => none) ((xs.map fun a => bindL ps.toList a m1).drop k) h nx = some (oc, h2, nx2)) (fun c h nx => oc = some c ∧ (c = .ret ∨ ∃ id, c = .exit id) ∧ h = h2 ∧ nx = nx2) (iterK_ok hcl hm hk.1) hg hc.1.1 hc.1.2 hc.2 hall (by simpa using hr) ?_ ?_ ?_
                    · intro l k hkl h3 nx3 hI
                      have ed : (xs.map fun a => bindL ps.toList a m1).drop k = bindL ps.toList xs[k] m1 :: (xs.map fun a => bindL ps.toList a m1).drop (k + 1) := by
                        rw [List.drop_eq_getElem_cons (by simpa using hkl)]
                        simp
                      rw [ed] at hI
                      simp only [eRounds] at hI
                      cases ha : eC P n cl hz f false asg (bindL ps.toList xs[k] m1) h3 nx3 with
                      | none => rw [ha] at hI; simp at hI
                      | some oa =>
                        obtain ⟨ea, ma, h4, nx4⟩ := oa
                        rw [ha] at hI
                        refine ih' false asg _ _ _ nx (some l) hf [] _ (fun e => by simp at e) ha fun rs hrs => ?_
                        rw [hrs rfl]
                        cases ea with
                        | normal =>
                          simp only [thnL]
                          simp only at hI
                          cases hb : eC P n cl hz f false body ma h4 nx4 with
                          | none => rw [hb] at hI; simp at hI
                          | some ob =>
                            obtain ⟨eb, mb, h5, nx5⟩ := ob
                            rw [hb] at hI
                            refine ih' false body _ _ _ nx (some l) _ _ _ (fun e => by simp at e) hb fun rs2 hrs2 => ?_
                            rw [hrs2 rfl]
                            refine ⟨rfl, ?_⟩
                            cases eb with
                            | normal => exact hI
                            | ret =>
                              simp only [Option.some.injEq, Prod.mk.injEq] at hI
                              exact ⟨hI.1.symm, .inl rfl, hI.2.1, hI.2.2⟩
                            | exit id =>
                              simp only [Option.some.injEq, Prod.mk.injEq] at hI
                              exact ⟨hI.1.symm, .inr ⟨_, rfl⟩, hI.2.1, hI.2.2⟩
                            | _ => simp at hI
                        | _ => simp at hI
                    · intro r h3 nx3 hI
                      have ed : (xs.map fun a => bindL ps.toList a m1).drop xs.length = [] := by simp
                      rw [ed] at hI
                      simp only [eRounds, Option.some.injEq, Prod.mk.injEq] at hI
                      obtain ⟨e1, e2, e3⟩ := hI
                      rw [← e1] at hend
                      obtain ⟨rfl, rfl, rfl, rfl⟩ := hend
                      have := hq [r] (fun e => by simp at e)
                      rw [← e2, ← e3] at this
                      exact this
                    · rintro r c h3 nx3 ⟨e1, hcc, rfl, rfl⟩
                      have := hq [r] (fun e => by simp at e)
                      rcases hcc with rfl | ⟨id, rfl⟩
                      · rw [e1] at hend
                        obtain ⟨rfl, rfl, rfl, rfl⟩ := hend
                        exact WE.ret this
                      · rw [e1] at hend
                        obtain ⟨rfl, rfl, rfl, rfl⟩ := hend
                        exact WE.exit this
                  · simp at he
                · simp at he
              · simp at he
            · simp at he
          · simp at he
        · simp at he
      | region id arr dr =>
        simp only [eC] at he
        refine WE.frzAll 1000 (preL (hz id) dr arr m h) m h ?_
        generalize frzAll 1000 (preL (hz id) dr arr m h) m h = mh at he ⊢
        obtain ⟨m1, h1⟩ := mh
        simp only at he ⊢
        split at he
        · split at he
          · rename_i hx
            simp only [Option.some.injEq, Prod.mk.injEq] at he
            obtain ⟨rfl, rfl, rfl, rfl⟩ := he
            exact WE.region (eOps_ok (hcl _) _ _ _ _ hx hq0)
          · simp at he
        · split at he
          · rename_i hx
            simp only [Option.some.injEq, Prod.mk.injEq] at he
            obtain ⟨rfl, rfl, rfl, rfl⟩ := he
            exact WE.region_draw hm (eDr_ok (hcl _) _ _ _ _ _ hx hq0)
          · simp at he
      | _ => simp [eC] at he
end Go.Fw
