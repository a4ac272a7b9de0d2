/- A part of the proof: CxK -/
import Derived.Test.YtmohgegpcfkooaaGreatDoorCxG
set_option linter.all false
set_option linter.unusedSectionVars false
set_option linter.unusedVariables false
set_option linter.unusedSimpArgs false
namespace Go.Fw
variable [Gl] [Yl]
omit [Yl] in
mutual
def beqV : V → V → Bool
  | .int k a, .int k' b => decide (k = k') && decide (a = b)
  | .bool a, .bool b => a == b
  | .str a, .str b => a == b
  | .flt k a, .flt k' b => decide (k = k') && Nat.beq a b
  | .nilptr, .nilptr => true
  | .ptr b o, .ptr b' o' => Nat.beq b b' && Nat.beq o o'
  | .fptr cs o, .fptr cs' o' => beqL cs cs' && Nat.beq o o'
  | .nilslice, .nilslice => true
  | .slice b o l c, .slice b' o' l' c' => Nat.beq b b' && Nat.beq o o' && Nat.beq l l' && Nat.beq c c'
  | .fslice cs l, .fslice cs' l' => beqL cs cs' && Nat.beq l l'
  | .eslice, .eslice => true
  | .nilmap, .nilmap => true
  | .map b, .map b' => Nat.beq b b'
  | .nilfunc, .nilfunc => true
  | .clo f cs, .clo f' cs' => Nat.beq f f' && beqL cs cs'
  | .yield a, .yield b => Nat.beq a b
  | .niliface, .niliface => true
  | .iface t v, .iface t' v' => Nat.beq t t' && beqV v v'
  | .agg cs, .agg cs' => beqL cs cs'
  | .tup cs, .tup cs' => beqL cs cs'
  | _, _ => false
def beqL : List V → List V → Bool
  | [], [] => true
  | a :: r, b :: s => beqV a b && beqL r s
  | _, _ => false
end
theorem nbeq {a b : Nat} (h : Nat.beq a b = true) : a = b := Nat.eq_of_beq_eq_true h
mutual
theorem beqV_eq : ∀ (a b : V), beqV a b = true → a = b
  | .int k a, w, h => by
    cases w <;> simp only [beqV, Bool.and_eq_true, decide_eq_true_eq] at h <;> first | (obtain ⟨rfl, rfl⟩ := h; rfl) | (simp at h)
  | .bool a, w, h => by
    cases w <;> simp only [beqV, beq_iff_eq] at h <;> first | (subst h; rfl) | (simp at h)
  | .str a, w, h => by
    cases w <;> simp only [beqV, beq_iff_eq] at h <;> first | (subst h; rfl) | (simp at h)
  | .flt k a, w, h => by
    cases w <;> simp only [beqV, Bool.and_eq_true, decide_eq_true_eq] at h <;> first | (obtain ⟨rfl, h2⟩ := h; rw [nbeq h2]) | (simp at h)
  | .nilptr, w, h => by cases w <;> simp only [beqV] at h <;> first | rfl | (simp at h)
  | .ptr b o, w, h => by
    cases w <;> simp only [beqV, Bool.and_eq_true] at h <;> first | (rw [nbeq h.1, nbeq h.2]) | (simp at h)
  | .fptr cs o, w, h => by
    cases w <;> simp only [beqV, Bool.and_eq_true] at h <;> first | (rw [beqL_eq _ _ h.1, nbeq h.2]) | (simp at h)
  | .nilslice, w, h => by cases w <;> simp only [beqV] at h <;> first | rfl | (simp at h)
  | .slice b o l c, w, h => by
    cases w <;> simp only [beqV, Bool.and_eq_true] at h <;> first | (rw [nbeq h.1.1.1, nbeq h.1.1.2, nbeq h.1.2, nbeq h.2]) | (simp at h)
  | .fslice cs o, w, h => by
    cases w <;> simp only [beqV, Bool.and_eq_true] at h <;> first | (rw [beqL_eq _ _ h.1, nbeq h.2]) | (simp at h)
  | .eslice, w, h => by cases w <;> simp only [beqV] at h <;> first | rfl | (simp at h)
  | .nilmap, w, h => by cases w <;> simp only [beqV] at h <;> first | rfl | (simp at h)
  | .map b, w, h => by cases w <;> simp only [beqV] at h <;> first | (rw [nbeq h]) | (simp at h)
  | .nilfunc, w, h => by cases w <;> simp only [beqV] at h <;> first | rfl | (simp at h)
  | .clo f cs, w, h => by
    cases w <;> simp only [beqV, Bool.and_eq_true] at h <;> first | (have h1 := nbeq h.1; subst h1; rw [beqL_eq _ _ h.2]) | (simp at h)
  | .yield b, w, h => by cases w <;> simp only [beqV] at h <;> first | (rw [nbeq h]) | (simp at h)
  | .niliface, w, h => by cases w <;> simp only [beqV] at h <;> first | rfl | (simp at h)
  | .iface t v, w, h => by
    cases w <;> simp only [beqV, Bool.and_eq_true] at h <;> first | (have h1 := nbeq h.1; subst h1; rw [beqV_eq _ _ h.2]) | (simp at h)
  | .agg cs, w, h => by cases w <;> simp only [beqV] at h <;> first | (rw [beqL_eq _ _ h]) | (simp at h)
  | .tup cs, w, h => by cases w <;> simp only [beqV] at h <;> first | (rw [beqL_eq _ _ h]) | (simp at h)
theorem beqL_eq : ∀ (a b : List V), beqL a b = true → a = b
  | [], w, h => by cases w <;> simp only [beqL] at h <;> first | rfl | (simp at h)
  | a :: r, w, h => by
    cases w <;> simp only [beqL, Bool.and_eq_true] at h <;> first | (rw [beqV_eq _ _ h.1, beqL_eq _ _ h.2]) | (simp at h)
end
omit [Yl] in
def beqM : Fl → Fl → Bool
  | [], [] => true
  | a :: r, b :: s => Nat.beq a.1 b.1 && beqV a.2 b.2 && beqM r s
  | _, _ => false
theorem beqM_eq : ∀ {a b : Fl}, beqM a b = true → a = b
  | [], [], h => rfl
  | [], b :: s, h => by simp [beqM] at h
  | a :: r, [], h => by simp [beqM] at h
  | (i, u) :: r, (j, v) :: s, h => by
    simp only [beqM, Bool.and_eq_true] at h
    have h1 := nbeq h.1.1
    have h2 := beqV_eq _ _ h.1.2
    try simp only at h1 h2
    subst h1 h2
    rw [beqM_eq h.2]
omit [Yl] in
def beqE : List (V × V) → List (V × V) → Bool
  | [], [] => true
  | a :: r, b :: s => beqV a.1 b.1 && beqV a.2 b.2 && beqE r s
  | _, _ => false
theorem beqE_eq : ∀ {a b : List (V × V)}, beqE a b = true → a = b
  | [], [], h => rfl
  | [], b :: s, h => by simp [beqE] at h
  | a :: r, [], h => by simp [beqE] at h
  | (i, u) :: r, (j, v) :: s, h => by
    simp only [beqE, Bool.and_eq_true] at h
    have h1 := beqV_eq _ _ h.1.1
    have h2 := beqV_eq _ _ h.1.2
    try simp only at h1 h2
    subst h1 h2
    rw [beqE_eq h.2]
omit [Yl] in
def beqO : AObj → AObj → Bool
  | .cells T cs n, .cells T' cs' n' => Nat.beq T T' && beqL cs cs' && Nat.beq n n'
  | .map es, .map es' => beqE es es'
  | _, _ => false
theorem beqO_eq {a b : AObj} (h : beqO a b = true) : a = b := by
  cases a <;> cases b <;> simp only [beqO, Bool.and_eq_true] at h <;> first
    | (have h1 := nbeq h.1.1; subst h1; rw [beqL_eq _ _ h.1.2, nbeq h.2])
    | (rw [beqE_eq h])
    | (simp at h)
omit [Yl] in
def beqH : Hp → Hp → Bool
  | [], [] => true
  | a :: r, b :: s => Nat.beq a.1 b.1 && beqO a.2 b.2 && beqH r s
  | _, _ => false
theorem beqH_eq : ∀ {a b : Hp}, beqH a b = true → a = b
  | [], [], h => rfl
  | [], b :: s, h => by simp [beqH] at h
  | a :: r, [], h => by simp [beqH] at h
  | (i, u) :: r, (j, v) :: s, h => by
    simp only [beqH, Bool.and_eq_true] at h
    have h1 := nbeq h.1.1
    have h2 := beqO_eq h.1.2
    try simp only at h1 h2
    subst h1 h2
    rw [beqH_eq h.2]
variable {ρ ρ' : Nat → Option Nat} {ν ν' : Nat → Nat} {nx : Nat} {P : Program} {ρr : Option Nat} {n nb : Nat} {m : Fl} {h hf : Hp} {o : Oper} {arr : Array Oper} {fu : Nat} {L : List Nat} {K : PK3} {i : Nat}
def DStE (nb : Nat) (P : Program) (ρr : Option Nat) (n : Nat) (arr : Array Oper) (fu : Nat) (L : List Nat) (i : Nat) (o : Oper) (m : Fl) (h : Hp) (nx : Nat) (hf : Hp) (K : PK3) : Prop :=
  ∀ ρ ν, good nb ρ nx h → (rH ρ ν h ++ hf).ns.Nodup → vldT ρ (fixM ν m) → wStep P ρr n arr o (rT ρ ν m) (rH ρ ν h ++ hf) fun t' h' => wA P ρr n arr fu (i :: L) t' h' (liftF nb ρ ν K)
theorem DE.all (hne : rdy arr L ≠ []) (hs : ∀ i ∈ rdy arr L, ∀ o, arr[i]? = some o → DStE nb P ρr n arr fu L i o m h nx hf K) : DE nb P ρr n arr (fu + 1) L m h nx hf K := by
  intro ρ ν hg hn ht
  rw [wA]
  exact .inr ⟨fun e => absurd e hne, fun i hi o ho => hs i hi o ho ρ ν hg hn ht⟩
theorem DStE.val {d : Nat} {v : V} (hv : xC P m h o = some v) (hg : gdL arr m o true) (hd : o.dst = some d) (hlt : d < n) (hvl : vldB h v = true)
    (hs : DE nb P ρr n arr fu (i :: L) ((d, v) :: m) h nx hf K) : DStE nb P ρr n arr fu L i o m h nx hf K := by
  intro ρ ν hgd hn ht
  refine wStep.yes (dstOk_of hd hlt) (gd_yes (i := i) (gdL_S (gdL_fix hg))) (WOp_of_evP (by rw [evP_rs]; exact xC_rT ht hn hv) ?_)
  rw [hd]
  have e1 : updO (rT ρ ν m) (some d) (rV ρ ν v) = rT ρ ν ((d, v) :: m) := rT_pu (d := some d)
  rw [e1]
  exact hs ρ ν hgd hn (ht.pu (vldB_vld hgd hvl))
theorem DStE.skip {d : Nat} (hg : gdL arr m o false) (hd : o.dst = some d) (hlt : d < n)
    (hs : DE nb P ρr n arr fu (i :: L) ((d, .tup []) :: m) h nx hf K) : DStE nb P ρr n arr fu L i o m h nx hf K := by
  intro ρ ν hgd hn ht
  refine wStep.no (dstOk_of hd hlt) (gd_no (i := i) (gdL_S (gdL_fix hg))) ?_
  rw [hd]
  have e1 : updO (rT ρ ν m) (some d) (rV ρ ν (.tup [])) = rT ρ ν ((d, .tup []) :: m) := rT_pu (d := some d)
  have e2 : rV ρ ν (.tup []) = .tup [] := rfl
  rw [e2] at e1
  rw [e1]
  exact hs ρ ν hgd hn (ht.pu (by trivial))
theorem OpS.nodup {ρr : Option Nat} {t : Fr} {h : Hp} {K : V → Hp → Prop} (hO : OpS P ρr n o t h fun v h' => h'.ns.Nodup → K v h') : OpS P ρr n o t h K := fun F w tm D next Q' ho hfr hk =>
  hO F w tm D next Q' ho hfr fun v x h' F' w' k o' r tr => hk v x h' F' w' (k o'.nodup) o' r tr
theorem vldT_le (hr : rle ρ ρ') (ht : vldT ρ (fixM ν m)) : vldT ρ' (fixM ν' m) := fun i u hu => by
  rw [lk_fix] at hu
  obtain ⟨z, hz, rfl⟩ := Option.map_eq_some_iff.1 hu
  have h1 := ht i (fixV ν z) (by rw [lk_fix, hz]; rfl)
  cases z with
  | ptr b o => obtain ⟨c, hc⟩ := h1; exact ⟨c, hr _ _ hc⟩
  | slice b o l k => obtain ⟨c, hc⟩ := h1; exact ⟨c, hr _ _ hc⟩
  | map b => obtain ⟨c, hc⟩ := h1; exact ⟨c, hr _ _ hc⟩
  | clo f cs => cases hy : isY cs <;> simp only [fixV, hy, cond_true, cond_false] <;> trivial
  | _ => trivial
theorem DStE.call {d : Nat} {f : FuncId} {cc : Call} {fo : Operand} {caps bs : List V} {h0 rest h1 : Hp} {v : V} {nx1 : Nat} (hop : o.op = .call cc) (hcal : cc.callee = .value fo) (hfo : evX m fo = some (.clo f caps)) (hb : evXs m cc.args.toList = some bs) (hgo : isGo P f = true) (hyc : isY caps = false)
    (hp : TriE P f (bs ++ caps) h0 nx fun a b c => a = v ∧ b = h1 ∧ c = nx1) (hperm : (h0 ++ rest).Perm h) (hg : gdL arr m o true) (hd : o.dst = some d) (hlt : d < n) (hlm : ltM nx m = true) (hlr : ltH nx rest = true) (hvl : vldB (h1 ++ rest) v = true)
    (hs : DE nb P ρr n arr fu (i :: L) ((d, v) :: m) (h1 ++ rest) nx1 hf K) : DStE nb P ρr n arr fu L i o m h nx hf K := by
  intro ρ ν hgd hn ht
  refine wStep.sem (dstOk_of hd hlt) (gd_yes (i := i) (gdL_S (gdL_fix hg))) ?_
  have e1 := evX_rT (ρ := ρ) (ν := ν) hfo
  simp only [rV, fixV_clo ν hyc, renV] at e1
  have g1 : evO (rs arr (rT ρ ν m) o) fo = some (.clo f (renL ρ (fixL ν caps))) := by rw [evO_rs (by simp [hop, Op.operands, Call.operands, hcal])]; exact e1
  have g2 : evOs (rs arr (rT ρ ν m) o) cc.args.toList = some (renL ρ (fixL ν bs)) := by
    rw [evOs_rs (fun x hx => by simp only [hop, Op.operands, Call.operands, Array.toList_append, List.mem_append]; exact .inr hx)]
    exact evXs_rT hb
  have g0 : good nx ρ nx h0 := ⟨hgd.fresh, fun p hp => hgd.keys p (hperm.subset (List.mem_append_left _ hp)), Nat.le_refl _⟩
  have hkr : keysOk ρ rest := fun p hp => hgd.keys p (hperm.subset (List.mem_append_right _ hp))
  have hpm : (rH ρ ν h0 ++ (rH ρ ν rest ++ hf)).Perm (rH ρ ν h ++ hf) := by
    rw [← List.append_assoc, ← rH_app]
    refine List.Perm.append_right hf ?_
    unfold rH renH fixH
    exact (hperm.map _).map _
  have key : OpS P ρr n o (rs arr (rT ρ ν m) o) (rH ρ ν h ++ hf) fun v h' => wA P ρr n arr fu (i :: L) (updO (rT ρ ν m) o.dst v) h' (liftF nb ρ ν K) := by
    refine OpS.nodup (OpS.call hop hcal g1 g2 (CallS.of_tri hgo ?_))
    rw [← renL_append, ← fixL_append]
    refine (((hp ρ ν g0).frame (rH ρ ν rest ++ hf)).perm hpm).mono ?_
    rintro v' h' ⟨h1', rfl, ⟨ρ', ν', v0, h0', nx', a, b, g, rfl, rfl, rfl, rfl, rfl⟩, hdis⟩ hnd
    have hr := rle2_of hgd.fresh a b
    have hbase := hgd.base
    have hbase' := g.base
    have eh : rH ρ' ν' (h0' ++ rest) ++ hf = rH ρ' ν' h0' ++ (rH ρ ν rest ++ hf) := by rw [rH_app, List.append_assoc, rH_eq a b hlr]
    have gg : good nb ρ' nx' (h0' ++ rest) := ⟨g.fresh, fun p hp => by
      rcases List.mem_append.1 hp with hp | hp
      · exact g.keys p hp
      · obtain ⟨c, hc⟩ := Option.isSome_iff_exists.1 (hkr p hp)
        rw [(hr.1 _ _ hc).1]; rfl, by omega⟩
    have hw := hs ρ' ν' gg (by rw [eh]; exact hnd) ((vldT_le hr.rle ht).pu (vldB_vld gg hvl))
    have e3 : rT ρ' ν' ((d, v0) :: m) = updO (rT ρ ν m) o.dst (rV ρ' ν' v0) := by
      rw [hd, ← rT_eq2 a b hlm]
      exact (rT_pu (d := some d)).symm
    rw [e3, eh] at hw
    refine wA_mono ?_ _ _ _ _ hw
    rintro t2 h3 ⟨ρ2, ν2, m2, h4, nx2, hf2, a2, b2, g2, en2, q2⟩
    exact ⟨ρ2, ν2, m2, h4, nx2, hf2, fun k hk => by rw [a2 k hk, a k (by omega)], (b.le hbase).trans b2, g2, en2, q2⟩
  refine OpS.mono key fun v h' hk => ⟨hk, fun e => ?_⟩
  unfold calm at e
  simp [hop, hcal] at e
omit [Yl] in
def rsM (l : List Nat) : Fl → Fl
  | [] => []
  | p :: r => match l.contains p.1 with
    | true => p :: rsM l r
    | false => rsM l r
omit [Yl] in
theorem lk_rsM (l : List Nat) : ∀ (m : Fl) (i : Nat), lk (rsM l m) i = if l.contains i = true then lk m i else none
  | [], i => by simp [rsM, lk]
  | (j, v) :: r, i => by
    have ih := lk_rsM l r i
    simp only [rsM]
    by_cases hij : i = j
    · subst hij
      have hb : Nat.beq i i = true := Nat.beq_refl i
      cases hc : l.contains i with
      | true => simp only [lk, hb, cond_true, if_true]
      | false => rw [ih, hc]; rfl
    · have hb : Nat.beq i j = false := by
        cases hb : Nat.beq i j with
        | false => rfl
        | true => exact absurd (Nat.eq_of_beq_eq_true hb) hij
      cases hc : l.contains j with
      | true => simp only [lk, hb, cond_false, ih]
      | false => rw [ih]; simp only [lk, hb, cond_false]
theorem rT_rsM {ρ : Nat → Option Nat} {ν : Nat → Nat} : rT ρ ν (rsM (o.looksAt arr) m) = rs arr (rT ρ ν m) o := by
  funext i
  rw [rT_get, lk_rsM]
  unfold rs
  split
  · rw [rT_get]
  · rfl
omit [Yl] in
def grows (h : Hp) : Hp → Bool
  | [] => false
  | _ :: r => beqH r h
theorem DStE.eff {v : V} {h2 : Hp} {nx2 : Nat} (hLE : ∀ K : V → Hp → Nat → Hp → Prop, K v h2 nx2 hf → LE nb P ρr n o (rsM (o.looksAt arr) m) h nx hf K) (hg : gdL arr m o true) (hd : dstOk n o) (hlm : ltM nx m = true) (hlc : ltC nx h2 = true) (hcm : (!calm o || grows h h2) = true) (hvl : vldB h2 v = true)
    (hs : DE nb P ρr n arr fu (i :: L) (pu m o.dst v) h2 nx2 hf K) : DStE nb P ρr n arr fu L i o m h nx hf K := by
  intro ρ ν hgd hn ht
  refine wStep.sem hd (gd_yes (i := i) (gdL_S (gdL_fix hg))) ?_
  have key := hLE (fun a b c e => a = v ∧ b = h2 ∧ c = nx2 ∧ e = hf) ⟨rfl, rfl, rfl, rfl⟩ ρ ν hgd
  rw [rT_rsM] at key
  refine OpS.nodup (OpS.mono key ?_)
  rintro v' h' ⟨ρ', ν', v0, h20, nx', hf', a, b, g, en, ⟨ev, a2, b2, eh⟩, rfl, rfl, rfl, rfl⟩ hnd
  have eh := eh hlc
  subst eh
  have hr := rle2_of hgd.fresh a2 b2
  refine ⟨?_, fun hca => ?_⟩
  · have hvt : vldT ρ' (fixM ν' (pu m o.dst v0)) := by
      have h1 := vldT_le (ν' := ν') hr.rle ht
      cases hdd : o.dst with
      | none => exact h1
      | some d => exact h1.pu (vldB_vld g hvl)
    have hw := hs ρ' ν' g hnd hvt
    have e3 : rT ρ' ν' (pu m o.dst v0) = updO (rT ρ ν m) o.dst v' := by
      rw [ev, ← rT_eq2 a2 b2 hlm, rT_pu]
    rw [e3] at hw
    refine wA_mono ?_ _ _ _ _ hw
    rintro t2 h3 ⟨ρ2, ν2, m2, h4, nx2, hf2, a3, b3, g2, en2, q2⟩
    exact ⟨ρ2, ν2, m2, h4, nx2, hf2, a.trans a3, b.trans b3, g2, en2, q2⟩
  · have hgr : grows h h20 = true := by simpa [hca] using hcm
    cases h20 with
    | nil => simp [grows] at hgr
    | cons p r =>
      have e1 := beqH_eq hgr
      subst e1
      have hlr : ltC nx r = true := by
        simp only [ltC] at hlc
        split at hlc
        · exact hlc
        · simp at hlc
      rw [rH_cons, List.cons_append] at hnd ⊢
      rw [rH_eq2 a2 b2 hgd.fresh hgd.keys hlr] at hnd ⊢
      simp only [Hp.ns_cons, List.nodup_cons] at hnd
      exact hle_push (hle.refl _) hnd.1
theorem DStE.skipN (hg : gdL arr m o false) (hd : o.dst = none) (hs : DE nb P ρr n arr fu (i :: L) m h nx hf K) : DStE nb P ρr n arr fu L i o m h nx hf K := by
  intro ρ ν hgd hn ht
  refine wStep.no (dstOk_no hd) (gd_no (i := i) (gdL_S (gdL_fix hg))) ?_
  rw [hd]
  exact hs ρ ν hgd hn ht
end Go.Fw
