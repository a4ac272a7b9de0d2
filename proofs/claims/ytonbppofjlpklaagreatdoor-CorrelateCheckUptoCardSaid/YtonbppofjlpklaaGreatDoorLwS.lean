/- A part of the proof: LwS, LwT, LwU, LwV, LwW, LwX, LwY, LwZ, LwAA, LwAB -/
import Derived.Test.YtonbppofjlpklaaGreatDoorLwR
set_option linter.all false
set_option linter.unusedSectionVars false
set_option linter.unusedVariables false
set_option linter.unusedSimpArgs false
section
namespace Go.Fw
variable [Gl]
variable {P : Program} {ρr : Option Nat} {n nb : Nat} {Q : LPo} {arr : Array Oper} {o : Oper} {os : List Oper} {κ : List Kt} {kn : Kn} {m : Fl} {h hf : Hp} {nx : Nat} {dl : List Nat} {dr : Dr}
end Go.Fw
end

section
namespace Go.Fw
variable [Gl]
variable {P : Program} {ρr : Option Nat} {n nb : Nat} {Q : LPo} {arr : Array Oper} {o : Oper} {os : List Oper} {κ : List Kt} {kn : Kn} {m : Fl} {h hf : Hp} {nx : Nat} {dl : List Nat} {dr : Dr}
theorem Safe.hpO {h' : Hp} {dr : Dr} (e : h = h') (hs : Safe nb P ρr n Q (.ops arr dr os κ kn m h' nx hf dl)) : Safe nb P ρr n Q (.ops arr dr os κ kn m h nx hf dl) := by subst e; exact hs
end Go.Fw
end

section
namespace Go.Fw
variable [Gl]
variable {P : Program} {ρr : Option Nat} {n nb : Nat} {Q : LPo} {arr : Array Oper} {o : Oper} {os : List Oper} {κ : List Kt} {kn : Kn} {m : Fl} {h hf : Hp} {nx : Nat} {dl : List Nat}
theorem dlOk_ret2 {rs : List ResultVar} {t : Fr} {v : V} (a : Hp) (hv : ∀ hf : Hp, (a ++ hf).ns.Nodup → resAll P rs t (a ++ hf) = some v) : ∀ (dl : List Nat) (hf : Hp), (a ++ hf).ns.Nodup → dlOk dl hf → RetOk P rs (fun u h' => u = v ∧ ∃ hf2, h' = a ++ hf2) t dl (a ++ hf)
  | [], hf, hn, _ => ⟨v, hv hf hn, rfl, hf, rfl⟩
  | r :: dl, hf, hn, hd => by
    obtain ⟨h1, h2⟩ := hget_right hd.1 hn
    refine ⟨h1, ?_⟩
    rw [h2]
    exact dlOk_ret2 a hv dl _ (by rw [← h2]; exact hdel_nodup r hn) hd.2
theorem YieldS.framed {l : Nat} {as : List V} {K : V → Hp → Prop} (hy : YieldS P l as hf K) (h0 : Hp) : YieldS P l as (h0 ++ hf) fun v h' => ∃ h1, h' = h0 ++ h1 ∧ K v h1 := by
  intro F w av ρ o a next Q' ho ha hn
  have hp : (hf ++ h0).Perm (h0 ++ hf) := List.perm_append_comm
  have ho1 := ho.perm hp
  refine hy F w av ρ o a next Q' (ho1.sub (List.sublist_append_left _ _)) ha fun v x h' F' w' k o' r tr => ?_
  obtain ⟨g1, g2, g3⟩ := own_frame ho1 o' tr
  have hp2 : (h0 ++ h').Perm (h' ++ h0) := List.perm_append_comm
  exact hn v x _ F' w' ⟨h', rfl, k⟩ (g1.perm hp2) r (((Trans.perm hp).trans g2).trans (Trans.perm hp2))
def bindL : List Nat → List V → Fl → Fl
  | p :: ps, v :: vs, m => bindL ps vs ((p, v) :: m)
  | _, _, m => m
theorem bindL_ren (ρ : Nat → Option Nat) : ∀ (ps : List Nat) (vs : List V) (m : Fl), vs.all dry = true → bindP ps vs (renT ρ m) = renT ρ (bindL ps vs m)
  | [], vs, m, _ => by cases vs <;> rfl
  | p :: ps, [], m, _ => rfl
  | p :: ps, v :: vs, m, hd => by
    simp only [List.all_cons, Bool.and_eq_true] at hd
    simp only [bindP, bindL]
    rw [← bindL_ren ρ ps vs _ hd.2, renT_cons, dry_ren ρ hd.1]
end Go.Fw
end

section
namespace Go.Fw
variable {α : Type}
end Go.Fw
end

section
namespace Go.Fw
variable [Gl]
variable {P : Program} {ρr : Option Nat} {n nb : Nat} {Q : LPo} {arr : Array Oper} {o : Oper} {os : List Oper} {κ : List Kt} {kn : Kn} {m : Fl} {h hf : Hp} {nx : Nat} {dl : List Nat}
def FinR (nb : Nat) (r : V) (h : Hp) (nx : Nat) (Φ : V → Hp → Nat → Prop) : Prop := ∃ sg r2 h2 nx2, Rel nb sg [(0, r)] h nx [(0, r2)] h2 nx2 ∧ Φ r2 h2 nx2
inductive FinN (nb : Nat) (P : Program) (rs : List ResultVar) (Φ : V → Hp → Nat → Prop) : Fl → Hp → Nat → Prop where
  | done {m : Fl} {h : Hp} {nx : Nat} {r : V} (hv : resA P m h rs = some r) (hq : FinR nb r h nx Φ) : FinN nb P rs Φ m h nx
  | frz {m : Fl} {h : Hp} {nx : Nat} (k : Nat) {T : TypeId} {cs : List V} {nn : Nat} (hk : hget h k = some (.cells T cs nn)) (hd : cs.all dryV1 = true) (hs : FinN nb P rs Φ (frzM k cs m) (frzHp k cs (hdel h k)) nx) : FinN nb P rs Φ m h nx
def RetN (nb : Nat) (P : Program) (rs : List ResultVar) (Φ : V → Hp → Nat → Prop) : LPo := fun e m h nx hf dl => (e = .normal ∨ e = .ret) ∧ dlOk dl hf ∧ FinN nb P rs Φ m h nx
theorem FinN.sound {rs : List ResultVar} {Φ : V → Hp → Nat → Prop} {hf : Hp} (hfin : FinN nb P rs Φ m h nx) : ∀ {ρ : Nat → Option Nat}, good nb ρ nx h → ∃ ρ' m2 h2 nx2 r0, agr nb ρ ρ' ∧ good nb ρ' nx2 h2 ∧ Ent (renT ρ m) (renH ρ h ++ hf) (renT ρ' m2) (renH ρ' h2 ++ hf) ∧ resA P m2 h2 rs = some r0 ∧ FinR nb r0 h2 nx2 Φ := by
  induction hfin with
  | done hv hq => exact fun {ρ} hg => ⟨_, _, _, _, _, agr.refl _ _, hg, Ent.refl _ _, hv, hq⟩
  | frz k hk hd hs ih =>
    intro ρ hg
    obtain ⟨g1, e1⟩ := ent_frz (hf := hf) hg hk hd
    obtain ⟨ρ', m2, h2, nx2, r0, a2, g2, e2, hv, hq⟩ := ih g1
    exact ⟨ρ', m2, h2, nx2, r0, a2, g2, e1.trans e2, hv, hq⟩
theorem TriL.of_safeN {f : FuncId} {fn : Func} {c : Code} {as : List V} {Φ : V → Hp → Nat → Prop} (hf : P.funcs[f]? = some fn) (hb : fn.body = some c) {rs : Array ResultVar} (hrs : fn.results = rs) (hn : fn.ntmps = n) (hl : Nat.ble as.length n = true)
    (hs : Safe nx P none n (RetN nx P rs.toList Φ) (.code c [] [] (frm 0 as) h nx [] [])) : TriL P f as h nx Φ := by
  intro ρ hg F w av ho ha
  subst hrs
  refine callsIn_of_wp_marks hf hb (FW_fn none f) ?_ rfl
  subst hn
  have hs' := hs knNil ρ hg
  have ho2 : Own F (renH ρ h ++ []) w := by rw [List.append_nil]; exact ho
  have hfr := frA_r ha (by rw [renL_length]; exact Nat.le_of_ble_eq_true hl)
  rw [frA_renL] at hfr
  refine wpIn_mono (hs' F w _ ho2 hfr) ?_
  rintro e ⟨tm, ds⟩ w' ⟨t', h', dl', F', ⟨ρ', m', h2, nx', hf', a, g, en, q⟩, ho', hf'', hd, tr⟩
  simp only at hd hf''
  subst hd
  obtain ⟨he, hdl, hfin⟩ := q
  obtain ⟨ρ3, m3, h3, nx3, r0, a3, g3, e3, hv, sg, r2, h4, nx4, hrel, hq⟩ := hfin.sound (hf := hf') g
  obtain ⟨F2, o2, f2, tr2⟩ := (en.trans e3) F' w' fn.ntmps tm ho' hf''
  have hres : ∀ hf : Hp, (renH ρ3 h3 ++ hf).ns.Nodup → resAll P fn.results.toList (renT ρ3 m3) (renH ρ3 h3 ++ hf) = some (renV ρ3 r0) := fun hf hn => resA_ren (vldT_of f2) hn hv
  have key := leaves_sound (fn := fn) (R := fun e w' => ∃ v x h' F', e = .returned x ∧ (∃ ρ' v0 h0 nx', agr nx ρ ρ' ∧ good nx ρ' nx' h0 ∧ v = renV ρ' v0 ∧ h' = renH ρ' h0 ∧ Φ v0 h0 nx') ∧ Own F' h' w' ∧ VR F' v x ∧ Trans F (renH ρ h) w F' h' w') dl' _ w' (dlOk_ret2 _ hres dl' hf' o2.nodup hdl) o2 f2
    (fun v x h5 w4 ⟨p1, hf2, p2⟩ o4 q4 tr4 => by
      subst p1 p2
      obtain ⟨a4, g4, en4⟩ := hrel.ent g3 ([] : Hp)
      have o5 : Own F2 (renH ρ3 h3 ++ []) w4 := by rw [List.append_nil]; exact o4.sub (List.sublist_append_left _ _)
      have f5 : FrR F2 1 (renT ρ3 [(0, r0)]) #[x] := ⟨by simp, fun i v hv => by
        unfold renT at hv
        simp only [lk] at hv
        cases hb : Nat.beq i 0 with
        | true =>
          rw [hb] at hv
          simp only [cond_true, Option.map_some, Option.some.injEq] at hv
          subst hv
          have := Nat.eq_of_beq_eq_true hb
          subst this
          exact ⟨x, rfl, q4⟩
        | false => rw [hb] at hv; simp at hv⟩
      obtain ⟨F6, o6, f6, tr6⟩ := en4 F2 w4 1 #[x] o5 f5
      obtain ⟨y, hy, q6⟩ := f6.at_ 0 (renV (cmp ρ3 sg) r2) (by simp [renT, lk])
      have hxy : y = x := by simpa using hy.symm
      rw [hxy] at q6
      rw [List.append_nil] at o6 tr6
      refine ⟨_, x, renH (cmp ρ3 sg) h4, F6, rfl, ⟨cmp ρ3 sg, r2, h4, nx4, (a.trans a3).trans a4, g4, rfl, rfl, hq⟩, o6, q6, ?_⟩
      have t1 := (tr.trans (tr2.trans tr4)).trans (Trans.sub (List.sublist_append_left (renH ρ3 h3) hf2))
      rw [List.append_nil] at t1
      rw [List.append_nil] at tr6
      exact t1.trans tr6)
  cases e with
  | normal => exact key
  | ret => exact key
  | _ => rcases he with h | h <;> cases h
end Go.Fw
namespace Go.Fw
variable [Gl]
variable {P : Program} {ρr : Option Nat} {n nb : Nat} {Q : LPo} {arr : Array Oper} {o : Oper} {os : List Oper} {κ : List Kt} {kn : Kn} {m : Fl} {h hf : Hp} {nx : Nat} {dl : List Nat}
end Go.Fw
end

section
namespace Go.Fw
variable [Gl]
variable {P : Program} {ρr : Option Nat} {n nb : Nat} {Q : LPo} {arr : Array Oper} {o : Oper} {os : List Oper} {κ : List Kt} {kn : Kn} {m : Fl} {h hf : Hp} {nx : Nat} {dl : List Nat} {fu : Nat} {L : List Nat} {K : KD} {i : Nat}
end Go.Fw
namespace Go.Fw
variable [Gl]
end Go.Fw
end

section
namespace Go.Fw
variable [Gl]
variable {P : Program} {ρ ρr : Option Nat} {n nb : Nat} {Q : LPo} {arr : Array Oper} {o : Oper} {os : List Oper} {κ : List Kt} {kn : Kn} {m : Fl} {t : Fr} {h hf : Hp} {nx : Nat} {dl : List Nat} {K : V → Hp → Prop}
end Go.Fw
end

section
namespace Go.Fw
variable [Gl]
variable {P : Program} {ρr : Option Nat} {n nb : Nat} {Q : LPo} {arr : Array Oper} {o : Oper} {os : List Oper} {κ : List Kt} {kn : Kn} {m : Fl} {h hf : Hp} {nx : Nat} {dl : List Nat}
variable {fu : Nat} {L : List Nat} {K : KD} {i : Nat}
end Go.Fw
end

section
namespace Go.Fw
variable [Gl]
variable {P : Program} {ρr : Option Nat} {n nb : Nat} {Q : LPo} {arr : Array Oper} {o : Oper} {os : List Oper} {κ : List Kt} {kn : Kn} {m : Fl} {h hf : Hp} {nx : Nat} {dl : List Nat}
end Go.Fw
end

section
namespace Go.Fw
variable [Gl]
variable {P : Program} {ρr : Option Nat} {n nb : Nat} {Q : LPo} {arr : Array Oper} {o : Oper} {os : List Oper} {κ : List Kt} {kn : Kn} {m : Fl} {h hf : Hp} {nx : Nat} {dl : List Nat}
end Go.Fw
end
