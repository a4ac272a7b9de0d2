/- A part of the proof: LwR -/
import Derived.Test.YtonbppofjlpklaaGreatDoorLwK
set_option linter.all false
set_option linter.unusedSectionVars false
set_option linter.unusedVariables false
set_option linter.unusedSimpArgs false
namespace Go.Fw
variable [Gl]
variable {P : Program} {ρr : Option Nat} {n nb : Nat} {Q : LPo} {arr : Array Oper} {o : Oper} {os : List Oper} {κ : List Kt} {kn : Kn} {m : Fl} {h hf : Hp} {nx : Nat} {dl : List Nat} {dr : Dr}
theorem OpS.frz {t : Fr} {h : Hp} {K : V → Hp → Prop} (hO : OpS P ρr n o t h fun v h' => ∃ b T cs nn len cap, v = .slice b 0 len cap ∧ h' = (b, .cells T cs nn) :: h ∧ K (.fslice cs len) h) : OpS P ρr n o t h K := by
  intro F w tm D next Q' ho hf hk
  refine hO F w tm D next Q' ho hf ?_
  rintro v x h' F' w' ⟨b, T, cs, nn, len, cap, rfl, rfl, hK⟩ o' r tr
  obtain ⟨c, fz, hx, hl, _, _, hr⟩ := own_cells o' (b := b) (T := T) (cs := cs) (n := nn) (by simp [hget])
  have hF := o'.off b (by simp)
  have o1 := o'.freeze (b := b) (o := .cells T cs nn) (by simp) hx
  have t1 := Trans.freeze (w := w') (x := Obj.cells c T fz) hF (h := (b, AObj.cells T cs nn) :: h) (by simp)
  have e0 : hdel ((b, AObj.cells T cs nn) :: h) b = h := by simp [hdel]
  rw [e0] at o1 t1
  have hv := frzV_r (T := T) (fz := fz) hF hl hr r
  simp only [frzV, if_pos, List.drop_zero] at hv
  exact hk _ _ _ _ _ hK o1 hv (tr.trans t1)
def bsX (P : Program) (m : Fl) (o : Oper) : Option V := match o.op with
  | .buildSlice T len parts => match tslice P T with
    | some e => match tsz P e with
      | some k => match tzero P e with
        | some z => match evXp m parts.toList with
          | some ps => match evFill (fun i => some (i * k, k)) (zcells z (len * k)) ps with
            | some cs => match Nat.ble (len * k) 16777216 && Nat.blt 0 z.length && ps.all (fun p => dry p.2) with
              | true => some (.fslice cs len)
              | false => none
            | none => none
          | none => none
        | none => none
      | none => none
    | none => none
  | _ => none
theorem bsX_op {v : V} (hv : bsX P m o = some v) {ρ : Nat → Option Nat} {tt : Fr} (htt : ∀ ps : List (Nat × Operand), (∃ T len parts, o.op = .buildSlice T len parts ∧ ps = parts.toList) → evParts tt ps = evParts (renT ρ m) ps) {h' : Hp} {K : V → Hp → Prop} (hK : K v h') : OpS P ρr n o tt h' K := by
  unfold bsX at hv
  split at hv
  · rename_i T len parts hop
    split at hv
    · rename_i e hT
      split at hv
      · rename_i k hk
        split at hv
        · rename_i z hz
          split at hv
          · rename_i ps hps
            split at hv
            · rename_i cs hcs
              split at hv
              · rename_i hc
                simp only [Bool.and_eq_true, Nat.ble_eq] at hc
                simp only [Option.some.injEq] at hv
                subst hv
                have hps' : evParts tt parts.toList = some ps := by
                  rw [htt _ ⟨T, len, parts, hop, rfl⟩, evXp_ren hps]
                  congr 1
                  conv => rhs; rw [← List.map_id ps]
                  refine List.map_congr_left fun p hp => ?_
                  rw [dry_ren ρ (List.all_eq_true.1 hc.2 p hp)]; rfl
                refine OpS.frz (OpS.buildSlice hop hT hk hz hc.1.1 (blt_lt hc.1.2) hps' hcs ?_)
                intro b hb
                exact ⟨b, e, cs, cs.length, len, len, rfl, rfl, hK⟩
              · simp at hv
            · simp at hv
          · simp at hv
        · simp at hv
      · simp at hv
    · simp at hv
  · simp at hv
theorem bsX_dry {v : V} (hv : bsX P m o = some v) : dry v = true ∧ ∀ h, vldB h v = true := by
  unfold bsX at hv
  repeat' split at hv
  all_goals first
    | (simp only [Option.some.injEq] at hv; subst hv; exact ⟨rfl, fun _ => rfl⟩)
    | (simp at hv; done)
theorem Safe.bsF {d : Nat} {v : V} (hv : bsX P m o = some v) (hr : rdyO arr kn m n o = some d)
    (hs : Safe nb P ρr n Q (.ops arr dr.nx os κ ((d, none) :: kn) ((d, v) :: m) h nx hf dl)) (hck : ckC dr = true := by rfl) : Safe nb P ρr n Q (.ops arr dr (o :: os) κ kn m h nx hf dl) := by
  obtain ⟨hd, hvl⟩ := bsX_dry hv
  cases dr with
  | no =>
    refine Safe.op hr (LS.real fun ρ hg hn ht => bsX_op hv (fun _ _ => rfl) ?_)
    exact ⟨ρ, v, h, nx, hf, agr.refl _ _, hg, by rw [renT_pu, dry_ren ρ hd]; exact Ent.refl _ _, hs⟩
  | at_ j ck =>
    cases ck with
    | nil => simp [ckC] at hck
    | cons ce ck =>
      intro hdo hk ρ hg hn ht
      obtain ⟨hgd, hdst, hlt⟩ := rdyO_run hk hr
      obtain ⟨ho, hce, hdt⟩ := hdo.tail
      simp only [ckC] at hck
      rw [hce] at hck
      have hw := hs hdt (hk.cons fun b hb => by simp at hb) ρ hg hn (vldT_c ht (vld_dry hd))
      rw [renT_cons, dry_ren ρ hd] at hw
      refine wA.first (S := fun _ => True) (v := v) ho (fun oj t h K _ _ hw => anyS oj t h K hw) _ _ _ _ hck trivial (fun h' _ K' hk' => wStep.sem (dstOk_of hdst hlt) (gd_yes (i := hdO j) (gdL_S hgd)) ?_) ?_
      · refine bsX_op (ρ := ρ) hv ?_ ⟨hk', fun _ => hle.refl _⟩
        rintro ps ⟨T, len, parts, hop, rfl⟩
        exact evParts_rs fun x hx => by simp only [hop, Op.operands]; simp; exact ⟨x.1, by simpa using hx⟩
      · rw [hdst]; exact hw
theorem subN {sg : Sg} {h3 : Hp} : (relH sg []).Sublist h3 := List.nil_sublist _
theorem subK {sg : Sg} {a j : Nat} {o o' : AObj} {r h3 : Hp} (hj : sgF sg a = some j) (ho : renO (sgF sg) o = o') (h : (relH sg r).Sublist h3) : (relH sg ((a, o) :: r)).Sublist ((j, o') :: h3) := by
  simp only [relH, hj]
  subst ho
  exact List.Sublist.cons_cons _ h
theorem renO_dry {s : Nat → Option Nat} {T : TypeId} {cs : List V} {n : Nat} (hd : cs.all dry = true) : renO s (.cells T cs n) = .cells T cs n := by rw [renO, dryL_ren s hd]
variable {α : Type} {y : Code}
def isCvB (P : Program) (m : Fl) (h : Hp) (o : Oper) : Option (List V × Nat × Nat) := match o.op with
  | .convert s d x => match evX m x with
    | some (.slice b o' len _) => match tslice P s with
      | some e => match tint P e with
        | some .u8 => match tisstr P d with
          | true => match hget h b with
            | some (.cells _ cs _) => some (cs, o', len)
            | _ => none
          | false => none
        | _ => none
      | none => none
    | _ => none
  | _ => none
theorem ev_cvB {cs : List V} {o' len : Nat} {s : List UInt8} (hs : bytesOf ((cs.drop o').take len) = some s) (hl : o' + len ≤ cs.length) (hd : cs.all dry = true) (hc : isCvB P m h o = some (cs, o', len)) : Ev P m h hf o (.str s) := by
  intro ρ hn ht
  unfold isCvB at hc
  split at hc
  · rename_i hop
    split at hc
    · rename_i ha
      split at hc
      · rename_i hT
        split at hc
        · rename_i he
          split at hc
          · rename_i hds
            split at hc
            · rename_i hg
              simp only [Option.some.injEq, Prod.mk.injEq] at hc
              obtain ⟨rfl, rfl, rfl⟩ := hc
              obtain ⟨c, hcb⟩ := evX_vld ht ha
              have hg' := hget_ren (ρ := ρ) hg hn
              rw [ky_eq hcb] at hg'
              simp only [renO, dryL_ren ρ hd] at hg'
              simp only [evP, hop, evX_ren ha, renV, hcb, Option.bind_some, evConv, hT, he, hds, hg', and_self, if_true]
              rw [if_pos hl, hs]; rfl
            · simp at hc
          · simp at hc
        · simp at hc
      · simp at hc
    · simp at hc
  · simp at hc
theorem Safe.cvB {d : Nat} {cs : List V} {o' len : Nat} {s : List UInt8} (hs : bytesOf ((cs.drop o').take len) = some s) (hl : o' + len ≤ cs.length) (hd : cs.all dry = true) (hc : isCvB P m h o = some (cs, o', len)) (hr : rdyO arr kn m n o = some d)
    (hk : Safe nb P ρr n Q (.ops arr .no os κ ((d, none) :: kn) ((d, .str s) :: m) h nx hf dl)) : Safe nb P ρr n Q (.ops arr .no (o :: os) κ kn m h nx hf dl) :=
  Safe.val (ev_cvB hs hl hd hc) hr hk
end Go.Fw
