/- A part of the proof: LwW -/
import Derived.Test.YtijfihbdcdkalaaGreatDoorLwV
set_option linter.all false
set_option linter.unusedSectionVars false
set_option linter.unusedVariables false
set_option linter.unusedSimpArgs false
namespace Go.Fw
variable [Gl]
variable {P : Program} {ρr : Option Nat} {n nb : Nat} {Q : LPo} {arr : Array Oper} {o : Oper} {os : List Oper} {κ : List Kt} {kn : Kn} {m : Fl} {h hf : Hp} {nx : Nat} {dl : List Nat}
def BackH (nb : Nat) {α : Type} (fr : α → Fl) (hp : α → Hp) (nx0 : Nat) (meas : α → Nat) (I : α → Prop) (R : α → Hp → List Nat → Prop) (a : α) : Fl → Hp → Nat → Hp → List Nat → Prop := fun m h nx hf dl =>
  ∃ sg b, I b ∧ meas b < meas a ∧ R b hf dl ∧ Rel nb sg m h nx (fr b) (hp b) nx0
theorem Safe.loopH {α : Type} {c : Code} (fr : α → Fl) (hp : α → Hp) (nx0 : Nat) (meas : α → Nat) (I : α → Prop) (R : α → Hp → List Nat → Prop) (a0 : α) (sg : Sg) (hr : Rel nb sg m h nx (fr a0) (hp a0) nx0) (h0 : I a0) (hR : R a0 hf dl)
    (round : ∀ a, I a → ∀ hf dl, R a hf dl → Safe nb P ρr n Q (.code c (.lp (BackH nb fr hp nx0 meas I R a) :: κ) [] (fr a) (hp a) nx0 hf dl)) : Safe nb P ρr n Q (.code (.loop c) κ kn m h nx hf dl) := by
  refine Safe.rel (κ := κ) sg hr fun hk ρ hg => ?_
  refine WC.loopE (fun j t h' dl' => ∃ a ρ' hf', meas a = j ∧ I a ∧ R a hf' dl' ∧ agr nb ρ ρ' ∧ good nb ρ' nx0 (hp a) ∧ t = renT ρ' (fr a) ∧ h' = renH ρ' (hp a) ++ hf') ?_ (j := meas a0) (Ent.refl _ _) ⟨a0, ρ, hf, rfl, h0, hR, agr.refl _ _, hg, rfl, rfl⟩
  rintro j t h' dl' ⟨a, ρ', hf', rfl, hI, hR, ag, gd, rfl, rfl⟩
  refine ((round a hI hf' dl' hR knNil) ρ' gd).mono ?_
  rintro e t2 h2 dl2 ⟨ρ2, m2, h3, nx2, hf2, a2, g2, en2, q2⟩
  cases e with
  | normal =>
    obtain ⟨sg2, b, hIb, hlt, hRb, hr2⟩ := q2
    obtain ⟨a3, g3, en3⟩ := hr2.ent g2 hf2
    exact ⟨meas b, _, _, hlt, en2.trans en3, b, cmp ρ2 sg2, hf2, rfl, hIb, hRb, ag.trans (a2.trans a3), g3, rfl, rfl⟩
  | _ => exact ⟨ρ2, m2, h3, nx2, hf2, ag.trans a2, g2, en2, q2⟩
theorem Safe.toBody {l : Nat} {body : Code} {R : LPo} (hs : Safe nx P (some l) n R (.code body [] [] m h nb hf dl)) : Safe nx P (some l) n (AsgQ nx P l n body R) (.fin .normal m h nb hf dl) := hs
def FinR (nb : Nat) (r : V) (h : Hp) (nx : Nat) (Φ : V → Hp → Nat → Prop) : Prop := ∃ sg r2 h2 nx2, Rel nb sg [(0, r)] h nx [(0, r2)] h2 nx2 ∧ Φ r2 h2 nx2
inductive FinN (nb : Nat) (P : Program) (rs : List ResultVar) (Φ : V → Hp → Nat → Prop) : Fl → Hp → Nat → Prop where
  | done {m : Fl} {h : Hp} {nx : Nat} {r : V} (hv : resA P m h rs = some r) (hq : FinR nb r h nx Φ) : FinN nb P rs Φ m h nx
  | frz {m : Fl} {h : Hp} {nx : Nat} (k : Nat) {T : TypeId} {cs : List V} {nn : Nat} (hk : hget h k = some (.cells T cs nn)) (hd : cs.all dryV1 = true) (hs : FinN nb P rs Φ (frzM k cs m) (frzHp k cs (hdel h k)) nx) : FinN nb P rs Φ m h nx
def RetN (nb : Nat) (P : Program) (rs : List ResultVar) (Φ : V → Hp → Nat → Prop) : LPo := fun e m h nx hf dl => (e = .normal ∨ e = .ret) ∧ dlOk dl hf ∧ FinN nb P rs Φ m h nx
theorem FinN.sound {rs : List ResultVar} {Φ : V → Hp → Nat → Prop} {hf : Hp} (hfin : FinN nb P rs Φ m h nx) : ∀ {ρ : Nat → Option Nat}, good nb ρ nx h → ∃ ρ' m2 h2 nx2 r0, agr nb ρ ρ' ∧ good nb ρ' nx2 h2 ∧ Ent (renT ρ m) (renH ρ h ++ hf) (renT ρ' m2) (renH ρ' h2 ++ hf) ∧ resA P m2 h2 rs = some r0 ∧ FinR nb r0 h2 nx2 Φ := by
  induction hfin with
  | done hv hq => exact fun {ρ} hg => ⟨_, _, _, _, _, agr.refl _ _, hg, Ent.refl _ _, hv, hq⟩
  | frz k hk hd hs ih =>
    intro ρ hg
    obtain ⟨g1, e1⟩ := ent_frz (hf := hf) hg hk hd
    obtain ⟨ρ', m2, h2, nx2, r0, a2, g2, e2, hv, hq⟩ := ih g1
    exact ⟨ρ', m2, h2, nx2, r0, a2, g2, e1.trans e2, hv, hq⟩
theorem TriL.of_safeN {f : FuncId} {fn : Func} {c : Code} {as : List V} {Φ : V → Hp → Nat → Prop} (hf : P.funcs[f]? = some fn) (hb : fn.body = some c) {rs : Array ResultVar} (hrs : fn.results = rs) (hn : fn.ntmps = n) (hl : Nat.ble as.length n = true)
    (hs : Safe nx P none n (RetN nx P rs.toList Φ) (.code c [] [] (frm 0 as) h nx [] [])) : TriL P f as h nx Φ := by
  intro ρ hg F w av ho ha
  subst hrs
  refine callsIn_of_wp_marks hf hb (FW_fn none f) ?_ rfl
  subst hn
  have hs' := hs knNil ρ hg
  have ho2 : Own F (renH ρ h ++ []) w := by rw [List.append_nil]; exact ho
  have hfr := frA_r ha (by rw [renL_length]; exact Nat.le_of_ble_eq_true hl)
  rw [frA_renL] at hfr
  refine wpIn_mono (hs' F w _ ho2 hfr) ?_
  rintro e ⟨tm, ds⟩ w' ⟨t', h', dl', F', ⟨ρ', m', h2, nx', hf', a, g, en, q⟩, ho', hf'', hd, tr⟩
  simp only at hd hf''
  subst hd
  obtain ⟨he, hdl, hfin⟩ := q
  obtain ⟨ρ3, m3, h3, nx3, r0, a3, g3, e3, hv, sg, r2, h4, nx4, hrel, hq⟩ := hfin.sound (hf := hf') g
  obtain ⟨F2, o2, f2, tr2⟩ := (en.trans e3) F' w' fn.ntmps tm ho' hf''
  have hres : ∀ hf : Hp, (renH ρ3 h3 ++ hf).ns.Nodup → resAll P fn.results.toList (renT ρ3 m3) (renH ρ3 h3 ++ hf) = some (renV ρ3 r0) := fun hf hn => resA_ren (vldT_of f2) hn hv
  have key := leaves_sound (fn := fn) (R := fun e w' => ∃ v x h' F', e = .returned x ∧ (∃ ρ' v0 h0 nx', agr nx ρ ρ' ∧ good nx ρ' nx' h0 ∧ v = renV ρ' v0 ∧ h' = renH ρ' h0 ∧ Φ v0 h0 nx') ∧ Own F' h' w' ∧ VR F' v x ∧ Trans F (renH ρ h) w F' h' w') dl' _ w' (dlOk_ret2 _ hres dl' hf' o2.nodup hdl) o2 f2
    (fun v x h5 w4 ⟨p1, hf2, p2⟩ o4 q4 tr4 => by
      subst p1 p2
      obtain ⟨a4, g4, en4⟩ := hrel.ent g3 ([] : Hp)
      have o5 : Own F2 (renH ρ3 h3 ++ []) w4 := by rw [List.append_nil]; exact o4.sub (List.sublist_append_left _ _)
      have f5 : FrR F2 1 (renT ρ3 [(0, r0)]) #[x] := ⟨by simp, fun i v hv => by
        unfold renT at hv
        simp only [lk] at hv
        cases hb : Nat.beq i 0 with
        | true =>
          rw [hb] at hv
          simp only [cond_true, Option.map_some, Option.some.injEq] at hv
          subst hv
          have := Nat.eq_of_beq_eq_true hb
          subst this
          exact ⟨x, rfl, q4⟩
        | false => rw [hb] at hv; simp at hv⟩
      obtain ⟨F6, o6, f6, tr6⟩ := en4 F2 w4 1 #[x] o5 f5
      obtain ⟨y, hy, q6⟩ := f6.at_ 0 (renV (cmp ρ3 sg) r2) (by simp [renT, lk])
      have hxy : y = x := by simpa using hy.symm
      rw [hxy] at q6
      rw [List.append_nil] at o6 tr6
      refine ⟨_, x, renH (cmp ρ3 sg) h4, F6, rfl, ⟨cmp ρ3 sg, r2, h4, nx4, (a.trans a3).trans a4, g4, rfl, rfl, hq⟩, o6, q6, ?_⟩
      have t1 := (tr.trans (tr2.trans tr4)).trans (Trans.sub (List.sublist_append_left (renH ρ3 h3) hf2))
      rw [List.append_nil] at t1
      rw [List.append_nil] at tr6
      exact t1.trans tr6)
  cases e with
  | normal => exact key
  | ret => exact key
  | _ => rcases he with h | h <;> cases h
theorem dlOk_1 {r : Nat} {dl : List Nat} {hf : Hp} (h : dlOk dl hf) : dlOk (r :: dl) ((r, .deferred) :: hf) := by
  refine ⟨by simp [hget], ?_⟩
  have : hdel ((r, AObj.deferred) :: hf) r = hf := by simp [hdel]
  rw [this]; exact h
end Go.Fw
namespace Go.Fw
variable [Gl]
variable {P : Program} {ρr : Option Nat} {n nb : Nat} {Q : LPo} {arr : Array Oper} {o : Oper} {os : List Oper} {κ : List Kt} {kn : Kn} {m : Fl} {h hf : Hp} {nx : Nat} {dl : List Nat}
theorem Safe.permO {h2 : Hp} (hp : h2.Perm h) (hs : Safe nb P ρr n Q (.ops arr .no os κ kn m h2 nx hf dl)) : Safe nb P ρr n Q (.ops arr .no os κ kn m h nx hf dl) := fun hkn ρ hg =>
  RO.ent (Ent.perm ((hp.map _).append_right hf)) (hs hkn ρ ⟨hg.fresh, fun p hp2 => hg.keys p (hp.subset hp2), hg.base⟩)
theorem Safe.callU {d nb0 : Nat} {f : FuncId} {as as' : List V} {h0 rest h1 : Hp} {r : V} (sg : Sg) (hp : TriL P f as h0 nb0 (fun v h nx => v = r ∧ h = h0 ∧ nx = nb0)) (hc : callee? m o = some (f, as')) (has : renL (sgF sg) as = as') (hr : rdyO arr kn m n o = some d) (hok : (isGo P f && sgOk 0 nb0 sg h0) = true)
    (h1e : relH sg h0 = h1) (h1s : renH (sgS sg nb0 nx) h0 = h1) (hrd : dry r = true) (hperm : (h1 ++ rest).Perm h)
    (hs : Safe nb P ρr n Q (.ops arr .no os κ ((d, none) :: kn) ((d, r) :: m) h nx hf dl)) : Safe nb P ρr n Q (.ops arr .no (o :: os) κ kn m h nx hf dl) := by
  refine Safe.callL (rest := rest) sg hp hc has hr hok (by rw [h1e]; exact hperm) fun v h' nx' q => ?_
  obtain ⟨rfl, rfl, rfl⟩ := q
  rw [h1s, dry_ren _ hrd, Nat.sub_self, Nat.add_zero]
  exact Safe.permO hperm.symm hs
theorem frzW_d (k : Nat) (cs : List V) {v : V} (h : dry v = true) : frzW k cs v = v := by
  cases v with
  | ptr b o => simp [dry] at h
  | slice b o l c => simp [dry] at h
  | clo f l => simp only [dry] at h; rw [frzW, frzX_d1 k cs h]
  | iface t v => simp only [dry] at h; rw [frzW]; congr 1; cases v <;> simp_all [dryV1, frzW]
  | agg l => simp only [dry] at h; rw [frzW, frzX_d1 k cs h]
  | tup l =>
    simp only [dry, List.all_eq_true] at h
    rw [frzW]
    congr 1
    induction l with
    | nil => rfl
    | cons a r ih =>
      simp only [frzX]
      rw [ih fun v hv => h v (List.mem_cons_of_mem _ hv)]
      congr 1
      have ha := h a (by simp)
      cases a with
      | agg l => simp only at ha; rw [frzW, frzX_d1 k cs ha]
      | _ => simp_all [dryV1, frzW]
  | _ => rfl
theorem frzOb_map {k : Nat} {cs : List V} {es : List (V × V)} (hd : dryM es = true) : frzOb k cs (.map es) = .map es := by
  have : (es.map fun e => (frzW k cs e.1, frzW k cs e.2)) = es := by
    conv => rhs; rw [← List.map_id es]
    refine List.map_congr_left fun e he => ?_
    have := List.all_eq_true.1 hd e he
    simp only [Bool.and_eq_true] at this
    rw [frzW_d k cs this.1, frzW_d k cs this.2]; rfl
  rw [frzOb, this]
theorem renO_mapF {s : Nat → Option Nat} {k : Nat} {cs : List V} {es : List (V × V)} (hd : dryM es = true) : renO s (.map es) = frzOb k cs (.map es) := by rw [frzOb_map hd, renO_map hd]
theorem mapE {s : Nat → Option Nat} {k j : Nat} {es : List (V × V)} (hd : dryM es = true) (hj : s k = some j) : renH s [(k, .map es)] = [(j, .map es)] := by
  simp only [renH_cons, renH_nil, renO_map hd, ky, hj, Option.getD_some]
theorem mapR {sg : Sg} {k j : Nat} {es : List (V × V)} (hd : dryM es = true) (hj : sgF sg k = some j) : relH sg [(k, .map es)] = [(j, .map es)] := by
  simp only [relH, hj, renO_map hd]
end Go.Fw
