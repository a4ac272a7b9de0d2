/- A part of the proof: CxN -/
import Derived.Test.YtmohgegpcfkooaaGreatDoorCxH
set_option linter.all false
set_option linter.unusedSectionVars false
set_option linter.unusedVariables false
set_option linter.unusedSimpArgs false
namespace Go.Fw
variable [Gl] [Yl]
variable {P : Program} {ρr : Option Nat} {n nb : Nat} {m : Fl} {h hf : Hp} {nx : Nat} {dl : List Nat} {o : Oper} {os : List Oper} {arr : Array Oper} {c : Code} {Q : LPo}
omit [Yl] in
def Yv : V := .clo 0 [.tup []]
omit [Yl] in
def yArgs (m : Fl) (o : Oper) : Option (List V) := match o.op with
  | .call c => match c.callee with
    | .value fo => match evX m fo with
      | some (.clo _ caps) => match isY caps with
        | true => evXs m c.args.toList
        | false => none
      | _ => none
    | _ => none
  | _ => none
theorem LE.yield {us : List V} {K : V → Hp → Nat → Hp → Prop} {Kf : V → Hp → Prop} (hy : YieldS P Yl.l us hf Kf) (hc : yArgs m o = some us) (hd : us.all dry = true) (hK : ∀ v hf', Kf v hf' → dry v = true ∧ K v h nx hf') : LE nb P ρr n o m h nx hf K := by
  unfold yArgs at hc
  split at hc
  · rename_i hop
    split at hc
    · rename_i hcal
      split at hc
      · rename_i hfo
        split at hc
        · rename_i hyc
          refine LE.real fun ρ ν hg hn ht => ?_
          have h1 := evX_rT (ρ := ρ) (ν := ν) hfo
          simp only [rV, fixV, hyc, cond_true, renV] at h1
          have h2 := evXs_rT (ρ := ρ) (ν := ν) hc
          rw [dryL_fix ν hd, dryL_ren ρ hd] at h2
          refine OpS.yield hop hcal h1 h2 ((hy.framed (rH ρ ν h)).mono ?_)
          rintro v h' ⟨hf', rfl, k⟩
          obtain ⟨hdv, hS⟩ := hK v hf' k
          have hvv : rV ρ ν v = v := by rw [rV, dry_fix ν hdv, dry_ren ρ hdv]
          exact ⟨ρ, ν, v, h, nx, hf', agr.refl _ _, agn.refl _ _, hg, by
            rw [← rT_pu, hvv]; exact Ent.refl _ _, ⟨hvv.symm, agr.refl _ _, agn.refl _ _, fun _ => rfl⟩, hS⟩
        · simp at hc
      · simp at hc
    · simp at hc
  · simp at hc
omit [Yl] in
def okY (ck : Option (List (List V))) (acc : List (List V)) (us : List V) : Bool := match ck with
  | none => true
  | some xs => match xs[acc.length]? with
    | some ys => beqL us ys && us.all dry
    | none => false
abbrev OutY := Exit × Fl × Hp × Nat × List (List V) × Bool
omit [Yl] in
def eYOps (P : Program) (n : Nat) (cl : Cl) (arr : Array Oper) (ck : Option (List (List V))) : List Oper → Fl → Hp → Nat → List (List V) → Bool → Option (List OutY)
  | [], m, h, nx, acc, st => some [(.normal, m, h, nx, acc, st)]
  | o :: os, m, h, nx, acc, st => match dB n o with
    | true => match gC arr m o with
      | some true => match yArgs m o with
        | some us => match st with
          | true => none
          | false => match okY ck acc us with
            | true => match eYOps P n cl arr ck os (puF m o.dst (.bool true)) h nx (us :: acc) false with
              | some a => match eYOps P n cl arr ck os (puF m o.dst (.bool false)) h nx acc true with
                | some b => some (a ++ b)
                | none => none
              | none => none
            | false => none
        | none => match eO P cl m h nx o with
          | some (v, h', nx') => eYOps P n cl arr ck os (puF m o.dst v) h' nx' acc st
          | none => none
      | some false => eYOps P n cl arr ck os (puF m o.dst (.tup [])) h nx acc st
      | none => none
    | false => none
omit [Yl] in
def eYDr (P : Program) (n : Nat) (cl : Cl) (arr : Array Oper) (ck : Option (List (List V))) (acc : List (List V)) (st : Bool) : Nat → List Nat → Fl → Hp → Nat → Option (List OutY)
  | 0, _, _, _, _ => none
  | f + 1, L, m, h, nx => match choose0 arr L with
    | some i => match mayB arr L i anyO with
      | true => match arr[i]? with
        | some o => match o.dst with
          | some d => match Nat.blt d n with
            | true => match gC arr m o with
              | some true => match pureC P m h o with
                | some v => eYDr P n cl arr ck acc st f (i :: L) (setF d v m) h nx
                | none => none
              | some false => eYDr P n cl arr ck acc st f (i :: L) (setF d (.tup []) m) h nx
              | none => none
            | false => none
          | none => none
        | none => none
      | false => none
    | none => match pickF arr L m (rdy arr L) with
      | some i => match mayB arr L i anyO with
        | true => match arr[i]? with
          | some o => match o.dst with
            | some d => match Nat.blt d n with
              | true => match gC arr m o with
                | some true => match fzC P m h o with
                  | some v => eYDr P n cl arr ck acc st f (i :: L) (setF d v m) h nx
                  | none => none
                | some false => eYDr P n cl arr ck acc st f (i :: L) (setF d (.tup []) m) h nx
                | none => none
              | false => none
            | none => none
          | none => none
        | false => none
      | none => match choose1 arr L with
        | .tail i is => match chainB arr (L, i :: is) && Nat.beq (f + 1) (i :: is).length with
          | true => eYOps P n cl arr ck ((i :: is).filterMap (arr[·]?)) m h nx acc st
          | false => none
        | .call i => match mayB arr L i anyO with
          | true => match arr[i]? with
            | some o => match o.dst with
              | some d => match Nat.blt d n with
                | true => match gC arr m o with
                  | some true => match callC P cl m o with
                    | some v => eYDr P n cl arr ck acc st f (i :: L) (setF d v m) h nx
                    | none => none
                  | some false => eYDr P n cl arr ck acc st f (i :: L) (setF d (.tup []) m) h nx
                  | none => none
                | false => none
              | none => none
            | none => none
          | false => none
        | _ => none
omit [Yl] in
def bindY (g : OutY → Option (List OutY)) : List OutY → Option (List OutY)
  | [] => some []
  | a :: r => match g a with
    | some x => match bindY g r with
      | some y => some (x ++ y)
      | none => none
    | none => none
omit [Yl] in
theorem bindY_ok {g : OutY → Option (List OutY)} : ∀ {l r : List OutY}, bindY g l = some r → ∀ a ∈ l, ∃ x, g a = some x ∧ ∀ b ∈ x, b ∈ r
  | [], r, h => fun a ha => by simp at ha
  | a :: l, r, h => fun b hb => by
    simp only [bindY] at h
    split at h
    · rename_i x hx
      split at h
      · rename_i y hy
        simp only [Option.some.injEq] at h
        subst h
        rcases List.mem_cons.1 hb with rfl | hb
        · exact ⟨x, hx, fun z hz => List.mem_append_left _ hz⟩
        · obtain ⟨z, h1, h2⟩ := bindY_ok hy b hb
          exact ⟨z, h1, fun w hw => List.mem_append_right _ (h2 w hw)⟩
      · simp at h
    · simp at h
omit [Yl] in
def notGo : Exit → Bool
  | .goto _ => false
  | _ => true
omit [Yl] in
def blkY (id : Nat) : OutY → OutY
  | (.exit id', r) => match Nat.beq id' id with
    | true => (.normal, r)
    | false => (.exit id', r)
  | a => a
omit [Yl] in
def preY (arr : Array Oper) (m : Fl) : List Nat := minusL (storesL m arr.toList) (basesL m arr.toList)
omit [Yl] in
def eYC (P : Program) (n : Nat) (cl : Cl) (ck : Option (List (List V))) : Nat → Code → Fl → Hp → Nat → List (List V) → Bool → Option (List OutY)
  | 0, _, _, _, _, _, _ => none
  | f + 1, c, m, h, nx, acc, st => match c with
    | .skip => some [(.normal, m, h, nx, acc, st)]
    | .label _ => some [(.normal, m, h, nx, acc, st)]
    | .exit id => some [(.exit id, m, h, nx, acc, st)]
    | .ret => some [(.ret, m, h, nx, acc, st)]
    | .seq x y => match eYC P n cl ck f x m h nx acc st with
      | some l => bindY (fun a => match a with
        | (.normal, m', h', nx', acc', st') => eYC P n cl ck f y m' h' nx' acc' st'
        | a => some [a]) l
      | none => none
    | .cond cx x y => match evX m cx with
      | some (.bool true) => eYC P n cl ck f x m h nx acc st
      | some (.bool false) => eYC P n cl ck f y m h nx acc st
      | _ => none
    | .block id x => match eYC P n cl ck f x m h nx acc st with
      | some l => some (l.map (blkY id))
      | none => none
    | .loop x => match eYC P n cl ck f x m h nx acc st with
      | some l => bindY (fun a => match a with
        | (.normal, m', h', nx', acc', st') => eYC P n cl ck f (.loop x) m' h' nx' acc' st'
        | a => some [a]) l
      | none => none
    | .scope x => match eYC P n cl ck f x m h nx acc st with
      | some l => match l.all fun a => notGo a.1 with
        | true => some l
        | false => none
      | none => none
    | .region _ arr dr => match dr with
      | false => eYOps P n cl arr ck arr.toList m h nx acc st
      | true => match eDr P n cl arr arr.size [] m h nx with
        | some (m', h', nx') => some [(.normal, m', h', nx', acc, st)]
        | none => match frzAll 1000 (preY arr m) m h with
          | (m, h) => eYDr P n cl arr ck acc st arr.size [] m h nx
    | _ => none
def RY (J : Nat → Hp → Prop) (S : Hp → Prop) (acc : List (List V)) (st : Bool) (hf : Hp) : Prop := (st = false → J acc.length hf) ∧ (st = true → S hf)
section
variable {cl : Cl} {xs : List (List V)} {J : Nat → Hp → Prop} {S : Hp → Prop}
theorem eYOps_ok (hcl : ClOk P cl) (hy : ∀ k (hk : k < xs.length) h, J k h → YieldS P Yl.l xs[k] h fun v h' => (v = .bool true ∧ J (k + 1) h') ∨ (v = .bool false ∧ S h')) {K : PK3} :
    ∀ (os : List Oper) (m : Fl) (h : Hp) (nx : Nat) (acc : List (List V)) (st : Bool) (hf : Hp) {L : List OutY}, eYOps P n cl arr (some xs) os m h nx acc st = some L → RY J S acc st hf → (∀ a ∈ L, ∀ hf, RY J S a.2.2.2.2.1 a.2.2.2.2.2 hf → K a.2.1 a.2.2.1 a.2.2.2.1 hf) → OE nb P ρr n arr os m h nx hf K
  | [], m, h, nx, acc, st, hf, L, he, hR, hk => by
    simp only [eYOps, Option.some.injEq] at he
    subst he
    exact OE.nil (hk _ (List.mem_singleton.2 rfl) hf hR)
  | o :: os, m, h, nx, acc, st, hf, L, he, hR, hk => by
    simp only [eYOps] at he
    split at he
    · rename_i hd
      split at he
      · rename_i hg
        split at he
        · rename_i us hus
          split at he
          · simp at he
          · split at he
            · rename_i hok
              split at he
              · rename_i a ha
                split at he
                · rename_i b hb
                  simp only [Option.some.injEq] at he
                  subst he
                  simp only [okY] at hok
                  split at hok
                  · rename_i ys hys
                    simp only [Bool.and_eq_true] at hok
                    have e1 := beqL_eq _ _ hok.1
                    subst e1
                    obtain ⟨hlt, hx⟩ := List.getElem?_eq_some_iff.1 hys
                    have hyy := hy acc.length hlt hf (hR.1 rfl)
                    rw [hx] at hyy
                    refine OE.run (gC_ok hg) (dB_ok hd) (LE.yield hyy hus hok.2 ?_)
                    rintro v hf' (⟨rfl, hJ⟩ | ⟨rfl, hS⟩)
                    · exact ⟨rfl, OE.congr (lk_puF m o.dst _) (eYOps_ok hcl hy os _ _ _ _ _ hf' ha ⟨fun _ => hJ, fun e => by simp at e⟩ fun z hz => hk z (List.mem_append_left _ hz))⟩
                    · exact ⟨rfl, OE.congr (lk_puF m o.dst _) (eYOps_ok hcl hy os _ _ _ _ _ hf' hb ⟨fun e => by simp at e, fun _ => hS⟩ fun z hz => hk z (List.mem_append_right _ hz))⟩
                  · simp at hok
                · simp at he
              · simp at he
            · simp at he
        · split at he
          · rename_i hv
            exact OE.run (gC_ok hg) (dB_ok hd) (eO_ok hcl hv (OE.congr (lk_puF m o.dst _) (eYOps_ok hcl hy os _ _ _ _ _ hf he hR hk)))
          · simp at he
      · rename_i hg
        exact OE.pass (gC_ok hg) (dB_ok hd) (OE.congr (lk_puF m o.dst _) (eYOps_ok hcl hy os _ _ _ _ _ hf he hR hk))
      · simp at he
    · simp at he
omit [Yl] in
theorem eYOps_norm : ∀ (os : List Oper) (m : Fl) (h : Hp) (nx : Nat) (acc : List (List V)) (st : Bool) {L : List OutY} {ck : Option (List (List V))}, eYOps P n cl arr ck os m h nx acc st = some L → ∀ a ∈ L, a.1 = .normal
  | [], m, h, nx, acc, st, L, ck, he => by
    simp only [eYOps, Option.some.injEq] at he
    subst he
    intro a ha; simp at ha; subst ha; rfl
  | o :: os, m, h, nx, acc, st, L, ck, he => by
    simp only [eYOps] at he
    repeat' split at he
    all_goals first
      | (simp at he; done)
      | exact eYOps_norm os _ _ _ _ _ he
      | skip
    simp only [Option.some.injEq] at he
    subst he
    intro z hz
    rcases List.mem_append.1 hz with hz | hz
    · exact eYOps_norm os _ _ _ _ _ (by assumption) z hz
    · exact eYOps_norm os _ _ _ _ _ (by assumption) z hz
theorem eYDr_ok (hcl : ClOk P cl) (hy : ∀ k (hk : k < xs.length) h, J k h → YieldS P Yl.l xs[k] h fun v h' => (v = .bool true ∧ J (k + 1) h') ∨ (v = .bool false ∧ S h')) {K : PK3} {acc : List (List V)} {st : Bool} (hR : RY J S acc st hf) :
    ∀ (f : Nat) (L : List Nat) (m : Fl) (h : Hp) (nx : Nat) {LL : List OutY}, eYDr P n cl arr (some xs) acc st f L m h nx = some LL → (∀ a ∈ LL, ∀ hf, RY J S a.2.2.2.2.1 a.2.2.2.2.2 hf → K a.2.1 a.2.2.1 a.2.2.2.1 hf) → DE nb P ρr n arr f L m h nx hf K
  | 0, L, m, h, nx, LL, he, hk => by simp [eYDr] at he
  | f + 1, L, m, h, nx, LL, he, hk => by
    simp only [eYDr] at he
    split at he
    · split at he
      · rename_i hc
        split at he
        · rename_i o ho
          split at he
          · rename_i d hd
            split at he
            · rename_i hlt
              split at he
              · rename_i hg
                split at he
                · rename_i v hv
                  unfold pureC at hv
                  split at hv
                  · simp at hv
                  · rename_i hl
                    split at hv
                    · rename_i hx
                      split at hv
                      · rename_i hvl
                        simp only [Option.some.injEq] at hv; subst hv
                        exact DE.any ho (gC_ok hg) hc (fun ρ ν h' ht hn => xC_any ht hn hx hl h') hvl hd (blt_lt hlt) (DE.congr (fun i => (lk_setF d _ m i).symm) (eYDr_ok hcl hy hR f _ _ _ _ he hk))
                      · simp at hv
                    · simp at hv
                · simp at he
              · rename_i hg
                exact DE.skip ho (gC_ok hg) hc hd (blt_lt hlt) (DE.congr (fun i => (lk_setF d _ m i).symm) (eYDr_ok hcl hy hR f _ _ _ _ he hk))
              · simp at he
            · simp at he
          · simp at he
        · simp at he
      · simp at he
    · split at he
      · split at he
        · rename_i hc
          split at he
          · rename_i o ho
            split at he
            · rename_i d hd
              split at he
              · rename_i hlt
                split at he
                · rename_i hg
                  split at he
                  · rename_i v hv
                    have hz := fzC_any (hf := hf) hv
                    exact DE.any ho (gC_ok hg) hc (fun ρ ν h' ht hn => hz.2 ρ ν h' ht hn) hz.1 hd (blt_lt hlt) (DE.congr (fun i => (lk_setF d _ m i).symm) (eYDr_ok hcl hy hR f _ _ _ _ he hk))
                  · simp at he
                · rename_i hg
                  exact DE.skip ho (gC_ok hg) hc hd (blt_lt hlt) (DE.congr (fun i => (lk_setF d _ m i).symm) (eYDr_ok hcl hy hR f _ _ _ _ he hk))
                · simp at he
              · simp at he
            · simp at he
          · simp at he
        · simp at he
      · split at he
        · rename_i i is _
          split at he
          · rename_i hc
            simp only [Bool.and_eq_true] at hc
            rw [Nat.eq_of_beq_eq_true hc.2]
            exact DE.tail (j := (L, i :: is)) rfl hc.1 (eYOps_ok hcl hy _ _ _ _ _ _ _ he hR hk)
          · simp at he
        · split at he
          · rename_i hc
            split at he
            · rename_i o ho
              split at he
              · rename_i d hd
                split at he
                · rename_i hlt
                  split at he
                  · rename_i hg
                    split at he
                    · rename_i v hv
                      unfold callC at hv
                      split at hv
                      · rename_i hop
                        split at hv
                        · rename_i hcal
                          split at hv
                          · rename_i hfo
                            split at hv
                            · rename_i hy2
                              split at hv
                              · rename_i hb
                                split at hv
                                · rename_i hdr
                                  split at hv
                                  · rename_i hr
                                    split at hv
                                    · rename_i hdv
                                      simp only [Option.some.injEq] at hv; subst hv
                                      obtain ⟨hgo, ht⟩ := hcl _ _ _ _ _ _ _ hr
                                      exact DE.callP ho (gC_ok hg) hc hop hcal hfo hb hgo hy2 hdr (PTri.of_E ht hdr hdv) hdv hd (blt_lt hlt) (DE.congr (fun i => (lk_setF d _ m i).symm) (eYDr_ok hcl hy hR f _ _ _ _ he hk))
                                    · simp at hv
                                  · simp at hv
                                · simp at hv
                              · simp at hv
                            · simp at hv
                          · simp at hv
                        · simp at hv
                      · simp at hv
                    · simp at he
                  · rename_i hg
                    exact DE.skip ho (gC_ok hg) hc hd (blt_lt hlt) (DE.congr (fun i => (lk_setF d _ m i).symm) (eYDr_ok hcl hy hR f _ _ _ _ he hk))
                  · simp at he
                · simp at he
              · simp at he
            · simp at he
          · simp at he
        · simp at he
omit [Yl] in
theorem eYDr_norm {acc : List (List V)} {st : Bool} {ck : Option (List (List V))} : ∀ (f : Nat) (L : List Nat) (m : Fl) (h : Hp) (nx : Nat) {LL : List OutY}, eYDr P n cl arr ck acc st f L m h nx = some LL → ∀ a ∈ LL, a.1 = .normal
  | 0, L, m, h, nx, LL, he => by simp [eYDr] at he
  | f + 1, L, m, h, nx, LL, he => by
    simp only [eYDr] at he
    repeat' split at he
    all_goals first
      | (simp at he; done)
      | exact eYDr_norm f _ _ _ _ he
      | exact eYOps_norm _ _ _ _ _ _ he
theorem WE.scope (hw : WE nb P none n c m h nx hf dl fun e m h nx hf dl => notGo e = true ∧ Q e m h nx hf dl) : WE nb P none n (.scope c) m h nx hf dl Q := fun ρ ν hg => by
  refine WC.scope ((hw ρ ν hg).mono ?_)
  rintro e t' h' dl' ⟨ρ', ν', m', h2, nx', hf', a, b, g, en, hn, q⟩
  cases e with
  | goto l => simp [notGo] at hn
  | _ => exact ⟨ρ', ν', m', h2, nx', hf', a, b, g, en, q⟩
theorem eYC_ok (hcl : ClOk P cl) (hm : P.follows .mixedOrders = true) (hy : ∀ k (hk : k < xs.length) h, J k h → YieldS P Yl.l xs[k] h fun v h' => (v = .bool true ∧ J (k + 1) h') ∨ (v = .bool false ∧ S h')) :
    ∀ (f : Nat) (c : Code) (m : Fl) (h : Hp) (nx : Nat) (acc : List (List V)) (st : Bool) (hf : Hp) (dl : List Nat) {L : List OutY} {Q : LPo}, eYC P n cl (some xs) f c m h nx acc st = some L → RY J S acc st hf → (∀ a ∈ L, ∀ hf, RY J S a.2.2.2.2.1 a.2.2.2.2.2 hf → Q a.1 a.2.1 a.2.2.1 a.2.2.2.1 hf dl) → WE nb P none n c m h nx hf dl Q := by
  intro f
  induction f using Nat.strongRecOn with
  | ind f ih =>
    intro c m h nx acc st hf dl L Q he hR hq
    cases f with
    | zero => simp [eYC] at he
    | succ f =>
      have ih' := ih f (Nat.lt_succ_self f)
      cases c with
      | skip => simp only [eYC, Option.some.injEq] at he; subst he; exact WE.skip (hq _ (List.mem_singleton.2 rfl) hf hR)
      | label l => simp only [eYC, Option.some.injEq] at he; subst he; exact WE.label (hq _ (List.mem_singleton.2 rfl) hf hR)
      | exit id => simp only [eYC, Option.some.injEq] at he; subst he; exact WE.exit (hq _ (List.mem_singleton.2 rfl) hf hR)
      | ret => simp only [eYC, Option.some.injEq] at he; subst he; exact WE.ret (hq _ (List.mem_singleton.2 rfl) hf hR)
      | seq x y =>
        simp only [eYC] at he
        split at he
        · rename_i l hx
          have hb := bindY_ok he
          refine WE.seq (ih' x _ _ _ _ _ hf dl hx hR fun a ha hf1 hR1 => ?_)
          obtain ⟨r, hr1, hr2⟩ := hb a ha
          obtain ⟨e, m', h', nx', acc', st'⟩ := a
          cases e with
          | normal => exact ih' y _ _ _ _ _ hf1 dl hr1 hR1 fun z hz => hq z (hr2 z hz)
          | _ =>
            simp only [Option.some.injEq] at hr1
            subst hr1
            exact hq _ (hr2 _ (List.mem_singleton.2 rfl)) hf1 hR1
        · simp at he
      | cond cx x y =>
        simp only [eYC] at he
        split at he
        · rename_i hc; exact WE.cond hc (fun _ => ih' x _ _ _ _ _ hf dl he hR hq) (fun e => by simp at e)
        · rename_i hc; exact WE.cond hc (fun e => by simp at e) (fun _ => ih' y _ _ _ _ _ hf dl he hR hq)
        · simp at he
      | block id x =>
        simp only [eYC] at he
        split at he
        · rename_i l hx
          simp only [Option.some.injEq] at he
          subst he
          refine WE.block (ih' x _ _ _ _ _ hf dl hx hR fun a ha hf1 hR1 => ?_)
          have h1 := hq (blkY id a) (List.mem_map_of_mem ha)
          obtain ⟨e, m', h', nx', acc', st'⟩ := a
          cases e with
          | exit id' =>
            simp only [blkL]
            cases hb : Nat.beq id' id with
            | true => rw [if_pos (nbeq hb)]; simp only [blkY, hb] at h1; exact h1 hf1 hR1
            | false => rw [if_neg (fun e => by rw [e, Nat.beq_refl] at hb; cases hb)]; simp only [blkY, hb] at h1; exact h1 hf1 hR1
          | _ => exact h1 hf1 hR1
        · simp at he
      | loop x =>
        refine WE.loopN (fun j m h nx hf' dl' => j ≤ f + 1 ∧ dl' = dl ∧ ∃ acc st L, RY J S acc st hf' ∧ eYC P n cl (some xs) j (.loop x) m h nx acc st = some L ∧ ∀ a ∈ L, ∀ hf, RY J S a.2.2.2.2.1 a.2.2.2.2.2 hf → Q a.1 a.2.1 a.2.2.1 a.2.2.2.1 hf dl) ?_ (j := f + 1) ⟨Nat.le_refl _, rfl, acc, st, L, hR, he, hq⟩
        rintro j m1 h1 nx1 hf1 dl1 ⟨hj, rfl, acc1, st1, L1, hR1, he1, hq1⟩
        cases j with
        | zero => simp [eYC] at he1
        | succ j =>
          have ihj := ih j (by omega)
          simp only [eYC] at he1
          split at he1
          · rename_i l hx
            have hb := bindY_ok he1
            refine ihj x _ _ _ _ _ hf1 dl1 hx hR1 fun a ha hf2 hR2 => ?_
            obtain ⟨r, hr1, hr2⟩ := hb a ha
            obtain ⟨e, m', h', nx', acc', st'⟩ := a
            cases e with
            | normal => exact ⟨j, Nat.lt_succ_self j, by omega, rfl, acc', st', r, hR2, hr1, fun z hz => hq1 z (hr2 z hz)⟩
            | _ =>
              simp only [Option.some.injEq] at hr1
              subst hr1
              exact hq1 _ (hr2 _ (List.mem_singleton.2 rfl)) hf2 hR2
          · simp at he1
      | scope x =>
        simp only [eYC] at he
        split at he
        · rename_i l hx
          split at he
          · rename_i hng
            simp only [Option.some.injEq] at he
            subst he
            exact WE.scope (ih' x _ _ _ _ _ hf dl hx hR fun a ha hf1 hR1 => ⟨List.all_eq_true.1 hng a ha, hq a ha hf1 hR1⟩)
          · simp at he
        · simp at he
      | region id arr dr =>
        simp only [eYC] at he
        split at he
        · refine WE.region (eYOps_ok hcl hy _ _ _ _ _ _ hf he hR fun a ha hf1 hR1 => ?_)
          have := hq a ha hf1 hR1
          rw [eYOps_norm _ _ _ _ _ _ he a ha] at this
          exact this
        · split at he
          · rename_i hx
            simp only [Option.some.injEq] at he
            subst he
            exact WE.region_draw hm (eDr_ok hcl _ _ _ _ _ hx (hq _ (List.mem_singleton.2 rfl) hf hR))
          · refine WE.frzAll 1000 (preY arr m) m h ?_
            generalize frzAll 1000 (preY arr m) m h = mh at he ⊢
            obtain ⟨m, h⟩ := mh
            dsimp only at he ⊢
            refine WE.region_draw hm (eYDr_ok hcl hy hR _ _ _ _ _ he fun a ha hf1 hR1 => ?_)
            have := hq a ha hf1 hR1
            rw [eYDr_norm _ _ _ _ _ he a ha] at this
            exact this
      | _ => simp [eYC] at he
end
omit [Yl] in
def endOk : Exit → Bool
  | .normal | .ret => true
  | _ => false
omit [Yl] in
theorem iterC_ok {cl : Cl} (hcl : ∀ y : Yl, ClOk P cl) (hm : P.follows .mixedOrders = true) {f : FuncId} {fn : Func} {c : Code} {caps : List V} {xs : List (List V)} {F : Nat} {L : List OutY} (hfn : P.funcs[f]? = some fn) (hb : fn.body = some c) (hl : Nat.ble (caps.length + 1) fn.ntmps = true) (hd : caps.all dry = true) (hres : fn.results.toList = [])
    (he : eYC P fn.ntmps cl (some xs) F c (frm 0 (Yv :: caps)) [] 0 [] false = some L) (hout : (L.all fun a => endOk a.1 && (a.2.2.2.2.2 || Nat.beq a.2.2.2.2.1.length xs.length)) = true) : IterC P f caps xs := by
  intro l J S hy h hJ
  letI : Yl := ⟨l⟩
  intro F0 w av ho ha
  refine callsIn_of_wp_marks hfn hb (FW_fn none f) ?_ rfl
  have hw : WE 0 P none fn.ntmps c (frm 0 (Yv :: caps)) [] 0 h [] fun e m h nx hf dl => endOk e = true ∧ dl = [] ∧ (J xs.length hf ∨ S hf) :=
    eYC_ok (hcl _) hm hy F c _ _ _ _ _ h [] he ⟨fun _ => hJ, fun e => by simp at e⟩ fun a ha hf hR => by
      have h1 := List.all_eq_true.1 hout a ha
      simp only [Bool.and_eq_true, Bool.or_eq_true] at h1
      refine ⟨h1.1, rfl, ?_⟩
      cases hst : a.2.2.2.2.2 with
      | true => exact .inr (hR.2 hst)
      | false =>
        have h2 := h1.2.resolve_left (by rw [hst]; simp)
        have := hR.1 hst
        rw [nbeq h2] at this
        exact .inl this
  have hg : good 0 (fun _ => none) 0 ([] : Hp) := ⟨fun _ _ => rfl, fun p hp => by simp at hp, Nat.le_refl _⟩
  have hfr := frA_r ha (by simpa using Nat.le_of_ble_eq_true hl)
  have efr : frA (.yield l :: caps) = rT (fun _ => none) (fun _ => 0) (frm 0 (Yv :: caps)) := by
    funext i
    rw [rT_get]
    simp only [frA, lk_frm _ 0 i (Nat.zero_le _), Nat.sub_zero]
    cases i with
    | zero => rfl
    | succ i =>
      simp only [List.getElem?_cons_succ]
      cases hc : caps[i]? with
      | none => rfl
      | some v =>
        have hdv := List.all_eq_true.1 hd v (List.mem_of_getElem? hc)
        simp only [Option.map_some, rV, dry_fix _ hdv, dry_ren _ hdv]
  rw [efr] at hfr
  refine wpIn_mono (hw _ _ hg F0 w _ ho hfr) ?_
  rintro e1 ⟨tm, ds⟩ w' ⟨t', hh, dl', F', ⟨ρ', ν', m1, h1, nx1, hf1, a, b, g, en, hend, rfl, hJS⟩, ho', hf'', hd', tr⟩
  simp only at hd' hf''
  subst hd'
  obtain ⟨F2, o2, f2, tr2⟩ := en F' w' fn.ntmps tm ho' hf''
  have key := leaves_sound (P := P) (fn := fn) (Φ := fun v h' => h' = rH ρ' ν' h1 ++ hf1) (R := fun e w' => ∃ v x h' F', e = .returned x ∧ (J xs.length h' ∨ S h') ∧ Own F' h' w' ∧ VR F' v x ∧ Trans F0 h w F' h' w') [] (rH ρ' ν' h1 ++ hf1) w' ⟨.tup [], by rw [hres]; rfl, rfl⟩ o2 f2
    (fun v x h4 w4 p2 o4 q4 tr4 => by
      subst p2
      refine ⟨_, x, hf1, F2, rfl, hJS, o4.sub (List.sublist_append_right _ _), q4, ?_⟩
      exact (tr.trans (tr2.trans tr4)).trans (Trans.sub (List.sublist_append_right _ _)))
  cases e1 with
  | normal => exact key
  | ret => exact key
  | _ => simp [endOk] at hend
def RQE (hf : Hp) (I : Hp → Nat → Prop) (B : Code → Hp → Nat → Prop) : LPo := fun e m h nx hf' dl' => hf' = hf ∧ match e with
  | .normal => I h nx
  | .ret => B .ret h nx
  | .exit id => B (.exit id) h nx
  | .goto l => B (.goto l) h nx
  | _ => False
def AbsL : LPo := fun _ _ _ _ _ _ => False
theorem bindL_fix (ν : Nat → Nat) : ∀ (ps : List Nat) (vs : List V) (m : Fl), vs.all dry = true → bindL ps vs (fixM ν m) = fixM ν (bindL ps vs m)
  | [], vs, m, _ => by cases vs <;> rfl
  | p :: ps, [], m, _ => rfl
  | p :: ps, v :: vs, m, hd => by
    simp only [List.all_cons, Bool.and_eq_true] at hd
    simp only [bindL]
    rw [← bindL_fix ν ps vs _ hd.2, fixM_cons, dry_fix ν hd.1]
theorem bind_rT {ρ : Nat → Option Nat} {ν : Nat → Nat} {ps : List Nat} {vs : List V} {m : Fl} (hd : vs.all dry = true) : bindP ps vs (rT ρ ν m) = rT ρ ν (bindL ps vs m) := by
  rw [rT, bindL_ren ρ _ _ _ hd, bindL_fix ν _ _ _ hd]; rfl
theorem ent_fr {ρ ρ' : Nat → Option Nat} {ν ν' : Nat → Nat} (hr : rle2 ρ ν ρ' ν') (H : Hp) : Ent (rT ρ ν m) H (rT ρ' ν' m) H := fun F w k tm ho hf => ⟨F, ho, fr_le2 (d := none) (v := .nilptr) hr hf, Trans.refl _ _ _⟩
theorem WE.range {g : Operand} {ps : Array Tmp} {asg body : Code} {f : FuncId} {caps : List V} {xs : List (List V)} (I : Nat → Hp → Nat → Prop) (B : Code → Hp → Nat → Prop)
    (hit : IterC P f caps xs) (hg : evX m g = some (.clo f caps)) (hgo : isGo P f = true) (hcd : caps.all dryV1 = true) (hps : ps.toList.all (fun p => Nat.blt p n) = true) (hxs : ∀ a, a ∈ xs → a.length = ps.size ∧ a.all dry = true) (hI : I 0 h nx)
    (round : ∀ l k (hk : k < xs.length) h' nx', I k h' nx' → WE nx P (some l) n asg (bindL ps.toList xs[k] m) h' nx' hf [] (thnL (fun m2 h2 nx2 hf2 dl2 => WE nx P (some l) n body m2 h2 nx2 hf2 dl2 (RQE hf (I (k + 1)) B)) AbsL))
    (hend : ∀ r h' nx', I xs.length h' nx' → Q .normal m h' nx' ((r, .deferred) :: hf) (r :: dl))
    (hjump : ∀ r c h' nx', B c h' nx' → WE nb P none n c m h' nx' ((r, .deferred) :: hf) (r :: dl) Q) : WE nb P none n (.rangeFunc g ps asg body) m h nx hf dl Q := by
  intro ρ ν hgd
  have he := evX_rT (ρ := ρ) (ν := ν) hg
  simp only [rV, fixV_clo ν (isY_dry hcd), dryL1_fix ν hcd, renV, dryL1_ren ρ hcd] at he
  have hbase := hgd.base
  have hperm : ∀ (r : Nat) (X : Hp), (X ++ (r, AObj.deferred) :: hf).Perm ((r, AObj.deferred) :: (X ++ hf)) := fun r X => List.perm_middle
  refine WC.range (fun k h' => ∃ ρ' ν' h2 nx2, agr nx ρ ρ' ∧ agn nx ν ν' ∧ good nx ρ' nx2 h2 ∧ h' = rH ρ' ν' h2 ++ hf ∧ I k h2 nx2) (fun c h' => ∃ ρ' ν' h2 nx2, agr nx ρ ρ' ∧ agn nx ν ν' ∧ good nx ρ' nx2 h2 ∧ h' = rH ρ' ν' h2 ++ hf ∧ B c h2 nx2) he hgo hit (fun p hp => blt_lt (List.all_eq_true.1 hps p hp)) (fun a ha => (hxs a ha).1)
    ⟨ρ, ν, h, nx, agr.refl _ _, agn.refl _ _, ⟨hgd.fresh, hgd.keys, Nat.le_refl _⟩, rfl, hI⟩ ?_ ?_ ?_
  · rintro l k hkl h' ⟨ρ', ν', h2, nx2, a, b, gd, rfl, hIk⟩
    have hr := rle2_of hgd.fresh a b
    rw [bind_rT (hxs _ (List.getElem_mem hkl)).2]
    refine WC.ent (ent_fr hr _) ((round l k hkl h2 nx2 hIk ρ' ν' gd).mono ?_)
    rintro e t3 h3 dl3 ⟨ρ3, ν3, m3, h4, nx3, hf3, a3, b3, g3, en, q⟩
    cases e with
    | normal =>
      refine WC.ent en (WC.post ((q ρ3 ν3 g3).mono ?_))
      rintro e t4 h5 dl4 ⟨ρ4, ν4, m4, h6, nx4, hf4, a4, b4, g4, en4, rfl, q4⟩
      refine ⟨_, _, en4, ?_⟩
      have fin : ∀ (X : Hp → Nat → Prop), X h6 nx4 → ∃ ρ' ν' h2 nx2, agr nx ρ ρ' ∧ agn nx ν ν' ∧ good nx ρ' nx2 h2 ∧ rH ρ4 ν4 h6 ++ hf4 = rH ρ' ν' h2 ++ hf4 ∧ X h2 nx2 := fun X hX => ⟨ρ4, ν4, h6, nx4, a.trans (a3.trans a4), b.trans (b3.trans b4), g4, rfl, hX⟩
      cases e with
      | normal => exact fin _ q4
      | ret => exact fin _ q4
      | exit id => exact fin _ q4
      | goto l => exact fin _ q4
      | _ => exact q4.elim
    | _ => exact q.elim
  · rintro r h' hr ⟨ρ', ν', h2, nx2, a, b, gd, rfl, hIk⟩
    have hr2 := rle2_of hgd.fresh a b
    have hb2 := gd.base
    refine ⟨ρ', ν', m, h2, nx2, (r, .deferred) :: hf, fun k hk => a k (by omega), b.le hbase, ⟨gd.fresh, gd.keys, by omega⟩, ?_, hend r h2 nx2 hIk⟩
    exact (ent_fr hr2 _).trans (Ent.perm (hperm r _))
  · rintro r h' c hr ⟨ρ', ν', h2, nx2, a, b, gd, rfl, hB⟩
    have hr2 := rle2_of hgd.fresh a b
    have hb2 := gd.base
    have gg : good nb ρ' nx2 h2 := ⟨gd.fresh, gd.keys, by omega⟩
    refine WC.ent ((ent_fr hr2 _).trans (Ent.perm (hperm r _))) ((hjump r c h2 nx2 hB ρ' ν' gg).mono ?_)
    rintro e t4 h5 dl4 ⟨ρ4, ν4, m4, h6, nx4, hf4, a4, b4, g4, en4, q4⟩
    exact ⟨ρ4, ν4, m4, h6, nx4, hf4, fun k hk => by rw [a4 k hk, a k (by omega)], (b.le hbase).trans b4, g4, en4, q4⟩
end Go.Fw
