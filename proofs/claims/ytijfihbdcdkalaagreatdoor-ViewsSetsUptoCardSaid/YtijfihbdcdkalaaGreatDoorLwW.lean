/- A part of the proof: LwW, LwX, LwY, LwZ -/
import Derived.Test.YtijfihbdcdkalaaGreatDoorLwV
set_option linter.all false
set_option linter.unusedSectionVars false
set_option linter.unusedVariables false
set_option linter.unusedSimpArgs false
section
namespace Go.Fw
variable [Gl]
variable {P : Program} {ρr : Option Nat} {n nb : Nat} {Q : LPo} {arr : Array Oper} {o : Oper} {os : List Oper} {κ : List Kt} {kn : Kn} {m : Fl} {h hf : Hp} {nx : Nat} {dl : List Nat}
def BackH (nb : Nat) {α : Type} (fr : α → Fl) (hp : α → Hp) (nx0 : Nat) (meas : α → Nat) (I : α → Prop) (R : α → Hp → List Nat → Prop) (a : α) : Fl → Hp → Nat → Hp → List Nat → Prop := fun m h nx hf dl =>
  ∃ sg b, I b ∧ meas b < meas a ∧ R b hf dl ∧ Rel nb sg m h nx (fr b) (hp b) nx0
theorem Safe.loopH {α : Type} {c : Code} (fr : α → Fl) (hp : α → Hp) (nx0 : Nat) (meas : α → Nat) (I : α → Prop) (R : α → Hp → List Nat → Prop) (a0 : α) (sg : Sg) (hr : Rel nb sg m h nx (fr a0) (hp a0) nx0) (h0 : I a0) (hR : R a0 hf dl)
    (round : ∀ a, I a → ∀ hf dl, R a hf dl → Safe nb P ρr n Q (.code c (.lp (BackH nb fr hp nx0 meas I R a) :: κ) [] (fr a) (hp a) nx0 hf dl)) : Safe nb P ρr n Q (.code (.loop c) κ kn m h nx hf dl) := by
  refine Safe.rel (κ := κ) sg hr fun hk ρ hg => ?_
  refine WC.loopE (fun j t h' dl' => ∃ a ρ' hf', meas a = j ∧ I a ∧ R a hf' dl' ∧ agr nb ρ ρ' ∧ good nb ρ' nx0 (hp a) ∧ t = renT ρ' (fr a) ∧ h' = renH ρ' (hp a) ++ hf') ?_ (j := meas a0) (Ent.refl _ _) ⟨a0, ρ, hf, rfl, h0, hR, agr.refl _ _, hg, rfl, rfl⟩
  rintro j t h' dl' ⟨a, ρ', hf', rfl, hI, hR, ag, gd, rfl, rfl⟩
  refine ((round a hI hf' dl' hR knNil) ρ' gd).mono ?_
  rintro e t2 h2 dl2 ⟨ρ2, m2, h3, nx2, hf2, a2, g2, en2, q2⟩
  cases e with
  | normal =>
    obtain ⟨sg2, b, hIb, hlt, hRb, hr2⟩ := q2
    obtain ⟨a3, g3, en3⟩ := hr2.ent g2 hf2
    exact ⟨meas b, _, _, hlt, en2.trans en3, b, cmp ρ2 sg2, hf2, rfl, hIb, hRb, ag.trans (a2.trans a3), g3, rfl, rfl⟩
  | _ => exact ⟨ρ2, m2, h3, nx2, hf2, ag.trans a2, g2, en2, q2⟩
theorem Safe.toBody {l : Nat} {body : Code} {R : LPo} (hs : Safe nx P (some l) n R (.code body [] [] m h nb hf dl)) : Safe nx P (some l) n (AsgQ nx P l n body R) (.fin .normal m h nb hf dl) := hs
def FinR (nb : Nat) (r : V) (h : Hp) (nx : Nat) (Φ : V → Hp → Nat → Prop) : Prop := ∃ sg r2 h2 nx2, Rel nb sg [(0, r)] h nx [(0, r2)] h2 nx2 ∧ Φ r2 h2 nx2
inductive FinN (nb : Nat) (P : Program) (rs : List ResultVar) (Φ : V → Hp → Nat → Prop) : Fl → Hp → Nat → Prop where
  | done {m : Fl} {h : Hp} {nx : Nat} {r : V} (hv : resA P m h rs = some r) (hq : FinR nb r h nx Φ) : FinN nb P rs Φ m h nx
  | frz {m : Fl} {h : Hp} {nx : Nat} (k : Nat) {T : TypeId} {cs : List V} {nn : Nat} (hk : hget h k = some (.cells T cs nn)) (hd : cs.all dryV1 = true) (hs : FinN nb P rs Φ (frzM k cs m) (frzHp k cs (hdel h k)) nx) : FinN nb P rs Φ m h nx
def RetN (nb : Nat) (P : Program) (rs : List ResultVar) (Φ : V → Hp → Nat → Prop) : LPo := fun e m h nx hf dl => (e = .normal ∨ e = .ret) ∧ dlOk dl hf ∧ FinN nb P rs Φ m h nx
theorem FinN.sound {rs : List ResultVar} {Φ : V → Hp → Nat → Prop} {hf : Hp} (hfin : FinN nb P rs Φ m h nx) : ∀ {ρ : Nat → Option Nat}, good nb ρ nx h → ∃ ρ' m2 h2 nx2 r0, agr nb ρ ρ' ∧ good nb ρ' nx2 h2 ∧ Ent (renT ρ m) (renH ρ h ++ hf) (renT ρ' m2) (renH ρ' h2 ++ hf) ∧ resA P m2 h2 rs = some r0 ∧ FinR nb r0 h2 nx2 Φ := by
  induction hfin with
  | done hv hq => exact fun {ρ} hg => ⟨_, _, _, _, _, agr.refl _ _, hg, Ent.refl _ _, hv, hq⟩
  | frz k hk hd hs ih =>
    intro ρ hg
    obtain ⟨g1, e1⟩ := ent_frz (hf := hf) hg hk hd
    obtain ⟨ρ', m2, h2, nx2, r0, a2, g2, e2, hv, hq⟩ := ih g1
    exact ⟨ρ', m2, h2, nx2, r0, a2, g2, e1.trans e2, hv, hq⟩
theorem TriL.of_safeN {f : FuncId} {fn : Func} {c : Code} {as : List V} {Φ : V → Hp → Nat → Prop} (hf : P.funcs[f]? = some fn) (hb : fn.body = some c) {rs : Array ResultVar} (hrs : fn.results = rs) (hn : fn.ntmps = n) (hl : Nat.ble as.length n = true)
    (hs : Safe nx P none n (RetN nx P rs.toList Φ) (.code c [] [] (frm 0 as) h nx [] [])) : TriL P f as h nx Φ := by
  intro ρ hg F w av ho ha
  subst hrs
  refine callsIn_of_wp_marks hf hb (FW_fn none f) ?_ rfl
  subst hn
  have hs' := hs knNil ρ hg
  have ho2 : Own F (renH ρ h ++ []) w := by rw [List.append_nil]; exact ho
  have hfr := frA_r ha (by rw [renL_length]; exact Nat.le_of_ble_eq_true hl)
  rw [frA_renL] at hfr
  refine wpIn_mono (hs' F w _ ho2 hfr) ?_
  rintro e ⟨tm, ds⟩ w' ⟨t', h', dl', F', ⟨ρ', m', h2, nx', hf', a, g, en, q⟩, ho', hf'', hd, tr⟩
  simp only at hd hf''
  subst hd
  obtain ⟨he, hdl, hfin⟩ := q
  obtain ⟨ρ3, m3, h3, nx3, r0, a3, g3, e3, hv, sg, r2, h4, nx4, hrel, hq⟩ := hfin.sound (hf := hf') g
  obtain ⟨F2, o2, f2, tr2⟩ := (en.trans e3) F' w' fn.ntmps tm ho' hf''
  have hres : ∀ hf : Hp, (renH ρ3 h3 ++ hf).ns.Nodup → resAll P fn.results.toList (renT ρ3 m3) (renH ρ3 h3 ++ hf) = some (renV ρ3 r0) := fun hf hn => resA_ren (vldT_of f2) hn hv
  have key := leaves_sound (fn := fn) (R := fun e w' => ∃ v x h' F', e = .returned x ∧ (∃ ρ' v0 h0 nx', agr nx ρ ρ' ∧ good nx ρ' nx' h0 ∧ v = renV ρ' v0 ∧ h' = renH ρ' h0 ∧ Φ v0 h0 nx') ∧ Own F' h' w' ∧ VR F' v x ∧ Trans F (renH ρ h) w F' h' w') dl' _ w' (dlOk_ret2 _ hres dl' hf' o2.nodup hdl) o2 f2
    (fun v x h5 w4 ⟨p1, hf2, p2⟩ o4 q4 tr4 => by
      subst p1 p2
      obtain ⟨a4, g4, en4⟩ := hrel.ent g3 ([] : Hp)
      have o5 : Own F2 (renH ρ3 h3 ++ []) w4 := by rw [List.append_nil]; exact o4.sub (List.sublist_append_left _ _)
      have f5 : FrR F2 1 (renT ρ3 [(0, r0)]) #[x] := ⟨by simp, fun i v hv => by
        unfold renT at hv
        simp only [lk] at hv
        cases hb : Nat.beq i 0 with
        | true =>
          rw [hb] at hv
          simp only [cond_true, Option.map_some, Option.some.injEq] at hv
          subst hv
          have := Nat.eq_of_beq_eq_true hb
          subst this
          exact ⟨x, rfl, q4⟩
        | false => rw [hb] at hv; simp at hv⟩
      obtain ⟨F6, o6, f6, tr6⟩ := en4 F2 w4 1 #[x] o5 f5
      obtain ⟨y, hy, q6⟩ := f6.at_ 0 (renV (cmp ρ3 sg) r2) (by simp [renT, lk])
      have hxy : y = x := by simpa using hy.symm
      rw [hxy] at q6
      rw [List.append_nil] at o6 tr6
      refine ⟨_, x, renH (cmp ρ3 sg) h4, F6, rfl, ⟨cmp ρ3 sg, r2, h4, nx4, (a.trans a3).trans a4, g4, rfl, rfl, hq⟩, o6, q6, ?_⟩
      have t1 := (tr.trans (tr2.trans tr4)).trans (Trans.sub (List.sublist_append_left (renH ρ3 h3) hf2))
      rw [List.append_nil] at t1
      rw [List.append_nil] at tr6
      exact t1.trans tr6)
  cases e with
  | normal => exact key
  | ret => exact key
  | _ => rcases he with h | h <;> cases h
theorem dlOk_1 {r : Nat} {dl : List Nat} {hf : Hp} (h : dlOk dl hf) : dlOk (r :: dl) ((r, .deferred) :: hf) := by
  refine ⟨by simp [hget], ?_⟩
  have : hdel ((r, AObj.deferred) :: hf) r = hf := by simp [hdel]
  rw [this]; exact h
end Go.Fw
namespace Go.Fw
variable [Gl]
variable {P : Program} {ρr : Option Nat} {n nb : Nat} {Q : LPo} {arr : Array Oper} {o : Oper} {os : List Oper} {κ : List Kt} {kn : Kn} {m : Fl} {h hf : Hp} {nx : Nat} {dl : List Nat}
theorem Safe.permO {h2 : Hp} (hp : h2.Perm h) (hs : Safe nb P ρr n Q (.ops arr .no os κ kn m h2 nx hf dl)) : Safe nb P ρr n Q (.ops arr .no os κ kn m h nx hf dl) := fun hkn ρ hg =>
  RO.ent (Ent.perm ((hp.map _).append_right hf)) (hs hkn ρ ⟨hg.fresh, fun p hp2 => hg.keys p (hp.subset hp2), hg.base⟩)
theorem Safe.callU {d nb0 : Nat} {f : FuncId} {as as' : List V} {h0 rest h1 : Hp} {r : V} (sg : Sg) (hp : TriL P f as h0 nb0 (fun v h nx => v = r ∧ h = h0 ∧ nx = nb0)) (hc : callee? m o = some (f, as')) (has : renL (sgF sg) as = as') (hr : rdyO arr kn m n o = some d) (hok : (isGo P f && sgOk 0 nb0 sg h0) = true)
    (h1e : relH sg h0 = h1) (h1s : renH (sgS sg nb0 nx) h0 = h1) (hrd : dry r = true) (hperm : (h1 ++ rest).Perm h)
    (hs : Safe nb P ρr n Q (.ops arr .no os κ ((d, none) :: kn) ((d, r) :: m) h nx hf dl)) : Safe nb P ρr n Q (.ops arr .no (o :: os) κ kn m h nx hf dl) := by
  refine Safe.callL (rest := rest) sg hp hc has hr hok (by rw [h1e]; exact hperm) fun v h' nx' q => ?_
  obtain ⟨rfl, rfl, rfl⟩ := q
  rw [h1s, dry_ren _ hrd, Nat.sub_self, Nat.add_zero]
  exact Safe.permO hperm.symm hs
theorem frzW_d (k : Nat) (cs : List V) {v : V} (h : dry v = true) : frzW k cs v = v := by
  cases v with
  | ptr b o => simp [dry] at h
  | slice b o l c => simp [dry] at h
  | clo f l => simp only [dry] at h; rw [frzW, frzX_d1 k cs h]
  | iface t v => simp only [dry] at h; rw [frzW]; congr 1; cases v <;> simp_all [dryV1, frzW]
  | agg l => simp only [dry] at h; rw [frzW, frzX_d1 k cs h]
  | tup l =>
    simp only [dry, List.all_eq_true] at h
    rw [frzW]
    congr 1
    induction l with
    | nil => rfl
    | cons a r ih =>
      simp only [frzX]
      rw [ih fun v hv => h v (List.mem_cons_of_mem _ hv)]
      congr 1
      have ha := h a (by simp)
      cases a with
      | agg l => simp only at ha; rw [frzW, frzX_d1 k cs ha]
      | _ => simp_all [dryV1, frzW]
  | _ => rfl
theorem frzOb_map {k : Nat} {cs : List V} {es : List (V × V)} (hd : dryM es = true) : frzOb k cs (.map es) = .map es := by
  have : (es.map fun e => (frzW k cs e.1, frzW k cs e.2)) = es := by
    conv => rhs; rw [← List.map_id es]
    refine List.map_congr_left fun e he => ?_
    have := List.all_eq_true.1 hd e he
    simp only [Bool.and_eq_true] at this
    rw [frzW_d k cs this.1, frzW_d k cs this.2]; rfl
  rw [frzOb, this]
theorem renO_mapF {s : Nat → Option Nat} {k : Nat} {cs : List V} {es : List (V × V)} (hd : dryM es = true) : renO s (.map es) = frzOb k cs (.map es) := by rw [frzOb_map hd, renO_map hd]
theorem mapE {s : Nat → Option Nat} {k j : Nat} {es : List (V × V)} (hd : dryM es = true) (hj : s k = some j) : renH s [(k, .map es)] = [(j, .map es)] := by
  simp only [renH_cons, renH_nil, renO_map hd, ky, hj, Option.getD_some]
theorem mapR {sg : Sg} {k j : Nat} {es : List (V × V)} (hd : dryM es = true) (hj : sgF sg k = some j) : relH sg [(k, .map es)] = [(j, .map es)] := by
  simp only [relH, hj, renO_map hd]
end Go.Fw
end

section
namespace Go.Fw
variable [Gl]
variable {P : Program} {ρr : Option Nat} {n nb : Nat} {Q : LPo} {arr : Array Oper} {o : Oper} {os : List Oper} {κ : List Kt} {kn : Kn} {m : Fl} {h hf : Hp} {nx : Nat} {dl : List Nat} {fu : Nat} {L : List Nat} {K : KD} {i : Nat}
def DStp (nb : Nat) (P : Program) (ρr : Option Nat) (n : Nat) (arr : Array Oper) (fu : Nat) (L : List Nat) (i : Nat) (o : Oper) (kn : Kn) (m : Fl) (h : Hp) (nx : Nat) (hf : Hp) (K : KD) : Prop :=
  KnOk kn m → ∀ ρ, good nb ρ nx h → (renH ρ h ++ hf).ns.Nodup → vldT ρ m → wStep P ρr n arr o (renT ρ m) (renH ρ h ++ hf) fun t' h' => wA P ρr n arr fu (i :: L) t' h' (liftD nb ρ K)
theorem DS.all {is : List Nat} (hr : rdy arr L = is) (hne : is ≠ []) (hs : ∀ i ∈ is, ∀ o, arr[i]? = some o → DStp nb P ρr n arr fu L i o kn m h nx hf K) : DS nb P ρr n arr (fu + 1) L kn m h nx hf K := by
  intro hk ρ hg hn ht
  rw [wA]
  exact .inr ⟨fun e => absurd (hr.symm.trans e) hne, fun i hi o ho => hs i (by rw [← hr]; exact hi) o ho hk ρ hg hn ht⟩
theorem DS.fork1 {i : Nat} {o : Oper} (hr : (rdy arr L == [i]) = true) (ho : arr.toList[i]? = some o) (h1 : DStp nb P ρr n arr fu L i o kn m h nx hf K) : DS nb P ρr n arr (fu + 1) L kn m h nx hf K := by
  rw [Array.getElem?_toList] at ho
  refine DS.all (by simpa using hr) (by simp) fun j hj oj hoj => ?_
  obtain rfl : j = i := by simpa using hj
  obtain rfl := Option.some.inj (ho.symm.trans hoj)
  exact h1
theorem DS.fork2 {i j : Nat} {o o' : Oper} (hr : (rdy arr L == [i, j]) = true) (ho : arr.toList[i]? = some o) (ho' : arr.toList[j]? = some o') (h1 : DStp nb P ρr n arr fu L i o kn m h nx hf K) (h2 : DStp nb P ρr n arr fu L j o' kn m h nx hf K) : DS nb P ρr n arr (fu + 1) L kn m h nx hf K := by
  rw [Array.getElem?_toList] at ho ho'
  refine DS.all (by simpa using hr) (by simp) fun k hk ok hok => ?_
  simp only [List.mem_cons, List.not_mem_nil, or_false] at hk
  rcases hk with rfl | rfl
  · obtain rfl := Option.some.inj (ho.symm.trans hok); exact h1
  · obtain rfl := Option.some.inj (ho'.symm.trans hok); exact h2
theorem DStp.val {d : Nat} {v : V} (hx : xK P kn m h o = some v) (hr : rdyO arr kn m n o = some d) (hvl : vldB h v = true)
    (hs : DS nb P ρr n arr fu (i :: L) ((d, none) :: kn) ((d, v) :: m) h nx hf K) : DStp nb P ρr n arr fu L i o kn m h nx hf K := by
  intro hk ρ hg hn ht
  obtain ⟨hgd, hd, hlt⟩ := rdyO_run hk hr
  refine wStep.yes (dstOk_of hd hlt) (gd_yes (i := i) (gdL_S hgd)) (WOp_of_evP (by rw [evP_rs]; exact knk_val hk hn ht hx) ?_)
  rw [hd]
  simp only [updO]
  rw [renT_c]
  exact hs (hk.cons fun b hb => by simp at hb) ρ hg hn (ht.cons (hg.vld hvl))
theorem DStp.st {T T' : TypeId} {a x : Operand} {k off nn : Nat} {cs : List V} {v : V} (hop : o.op = .store T a x) (ha : evX m a = some (.ptr k off)) (hx : evX m x = some v) (hg : hget h k = some (.cells T' cs nn)) (hr : gdOk arr kn m o = true)
    (hsz : tsz P T = some (vcells v).length) (hl : Nat.ble (off + (vcells v).length) cs.length = true) (hlf : (vcells v).all leafV = true)
    (hs : DS nb P ρr n arr fu (i :: L) kn m (hset h k (.cells T' (stL cs off (vcells v)) nn)) nx hf K) : DStp nb P ρr n arr fu L i o kn m h nx hf K := by
  intro hk ρ gd hn ht
  obtain ⟨hgd, hd⟩ := gdOk_run hk hr
  obtain ⟨c, hcb⟩ := evX_vld ht ha
  have hg' := hget_ren (ρ := ρ) hg hn
  have ha' := evX_ren (ρ := ρ) ha
  simp only [renV, hcb] at ha'
  rw [ky_eq hcb] at hg'
  have hset' := hset_ren (ρ := ρ) (hf := hf) (o' := .cells T' (stL cs off (vcells v)) nn) hg hn
  rw [ky_eq hcb] at hset'
  have hA : a ∈ o.op.operands.toList := by simp [hop, Op.operands]
  have hX : x ∈ o.op.operands.toList := by simp [hop, Op.operands]
  refine wStep.sem (dstOk_no hd) (gd_yes (i := i) (gdL_S hgd)) ?_
  have key : OpS P ρr n o (rs arr (renT ρ m) o) (renH ρ h ++ hf) fun v h' => wA P ρr n arr fu (i :: L) (updO (renT ρ m) o.dst v) h' (liftD nb ρ K) := by
    refine OpS.store hop (by rw [evO_rs hA]; exact ha') (by rw [evO_rs hX]; exact evX_ren hx) ?_
    simp only [WStore]
    simp only [hg', renO, vcells_ren, renL_length]
    refine ⟨hsz, Nat.le_of_ble_eq_true hl, all_leaf_ren hlf, ?_⟩
    rw [hd]
    simp only [updO]
    simp only [renO] at hset'
    rw [stL_ren, hset']
    refine hs hk ρ (hset_keys gd) ?_ ht
    have : (renH ρ (hset h k (.cells T' (stL cs off (vcells v)) nn)) ++ hf).ns = (renH ρ h ++ hf).ns := by rw [← hset', hset_ns]
    rw [this]; exact hn
  refine OpS.mono key fun v h' hk => ⟨hk, fun e => ?_⟩
  unfold calm at e
  simp [hop] at e
end Go.Fw
namespace Go.Fw
variable [Gl]
mutual
def wdV : V → V
  | .nilslice => .fslice [] 0
  | .fslice l n => .fslice (wdL l) n
  | .fptr l o => .fptr (wdL l) o
  | .agg l => .agg (wdL l)
  | .tup l => .tup (wdL l)
  | v => v
def wdL : List V → List V
  | [] => []
  | v :: r => wdV v :: wdL r
end
theorem wdL_length : ∀ l : List V, (wdL l).length = l.length
  | [] => rfl
  | v :: r => by simp [wdL, wdL_length r]
mutual
theorem wdV_r {F : Froz} : ∀ (v : V) {x : Value}, VR F v x → VR F (wdV v) x
  | .nilslice, x, h => VLe.nils F x h
  | .fslice l n, x, h => by
    rcases h.fslice_inv with ⟨rfl, rfl, rfl⟩ | ⟨a, cap, g, rfl, h1, h2, h3⟩
    · exact .fnil
    · exact .fslice _ _ a cap g h1 (fun i hi => h2 i (by rwa [wdL_length] at hi)) (wdL_r l g h3)
  | .fptr l o, x, h => by
    obtain ⟨a, g, rfl, h2, h3⟩ := h.fptr_inv
    exact .fptr _ _ a g (fun i hi => h2 i (by rwa [wdL_length] at hi)) (wdL_r l g h3)
  | .agg l, x, h => by
    obtain ⟨vs, rfl, hv⟩ := h.agg_inv
    exact .of_agg ⟨by rw [hv.1, wdL_length], wdL_r l (fun i => vs.getD i undef) hv.2⟩
  | .tup l, x, h => by
    obtain ⟨vs, rfl, hv⟩ := h.tup_inv
    exact .of_tup ⟨by rw [hv.1, wdL_length], wdL_r l (fun i => vs.getD i undef) hv.2⟩
  | .ptr _ _, x, h | .slice _ _ _ _, x, h | .clo _ _, x, h | .iface _ _, x, h | .map _, x, h | .int _ _, x, h | .bool _, x, h | .str _, x, h | .flt _ _, x, h | .nilptr, x, h | .eslice, x, h | .nilmap, x, h | .nilfunc, x, h | .yield _, x, h | .niliface, x, h => h
theorem wdL_r {F : Froz} : ∀ (l : List V) (g : Nat → Value), (∀ (i : Nat) v, l[i]? = some v → VR F v (g i)) → ∀ (i : Nat) v, (wdL l)[i]? = some v → VR F v (g i)
  | [], g, h, i, v, hv => by simp [wdL] at hv
  | u :: r, g, h, i, v, hv => by
    cases i with
    | zero =>
      simp only [wdL, List.getElem?_cons_zero, Option.some.injEq] at hv
      subst hv
      exact wdV_r u (h 0 _ rfl)
    | succ i =>
      simp only [wdL, List.getElem?_cons_succ] at hv
      exact wdL_r r (fun j => g (j + 1)) (fun j w hw => h (j + 1) w (by simpa using hw)) i v hv
end
theorem wdE {r0 r : V} (h : wdV r0 = r) : VLe r0 r := fun F x hx => h ▸ wdV_r r0 hx
end Go.Fw
end

section
namespace Go.Fw
variable [Gl]
variable {P : Program} {ρ ρr : Option Nat} {n nb : Nat} {Q : LPo} {arr : Array Oper} {o : Oper} {os : List Oper} {κ : List Kt} {kn : Kn} {m : Fl} {t : Fr} {h hf : Hp} {nx : Nat} {dl : List Nat} {K : V → Hp → Prop}
theorem tkS {e : TypeId} {z : List V} {cs : List V} {j : Nat} {nn : Nat} {F : Froz} {T : TypeId} {c c' : Array Value} {fz : Nat × Nat} (hs : c'.size = c.size) (hl : cs.length ≤ c.size) (hz : ∀ i, i < c.size ∨ (i = c.size ∧ T ≠ 5) → ¬ (fz.1 ≤ i ∧ i < fz.2))
    (hr : ∀ i v, cs[i]? = some v → VR F v (c.getD i undef)) (hc : ∀ i, i < j → c'[i]? = c[i]?) : OR F (.cells T (cs.take j) c.size) (.cells c' T fz) := by
  have := OR.cells (F := F) T (cs.take j) c' fz (by rw [hs]; simp; omega) (by rw [hs]; exact hz) (fun i v hv => by
    have hi : i < (cs.take j).length := (List.getElem?_eq_some_iff.1 hv).1
    have hj : i < j := by simp at hi; omega
    rw [List.getElem?_take_of_lt hj] at hv
    have := hr i v hv
    rwa [Array.getD_eq_getD_getElem?, ← hc i hj, ← Array.getD_eq_getD_getElem?] at this)
  rwa [hs] at this
theorem OpS.clear {sT e : TypeId} {a : Operand} {k by_ len cap p o' nn : Nat} {T : TypeId} {z cs : List V} (hop : IsClear o sT a) (he : ElemOk P sT e k by_ z) (hzl : z.all leafV = true) (ha : evO t a = some (.slice p o' len cap))
    (hg : hget h p = some (.cells T cs nn)) (hl : o' + len * k ≤ cs.length) (hk : K (.tup []) (hset h p (.cells T (cs.take o') nn))) : OpS P ρ n o t h K := by
  refine OpS.of_value (by simp [hop.op]) fun F w tm D ho hf => ?_
  have ea := (evO_r (ds := D) hf ha).slice_inv
  obtain ⟨zv, h1, h2⟩ := tzero_run (P := P) (w := w) he.zero
  obtain ⟨c, fz, hc, hl', rfl, hz, hr⟩ := own_cells ho hg
  have hz0 : z.length = k := he.zl
  have hzs : zv.cells.size = k := by rw [← hz0]; exact (h2 F).1
  by_cases h0 : len = 0
  · refine ⟨.tup [], .tuple #[], _, F, w.putObj p (.cells c T fz), hop.exec ?_, hk, ho.put (hget_ns hg) (tkS (e := e) (z := z) (nn := 0) rfl hl' hz hr (fun _ _ => rfl)), .tup [] #[] rfl (fun i v hv => by simp at hv), Trans.put _ _ (hget_ns hg)⟩
    rw [ea, putObj_same hc]
    unfold Builtin.clear_
    subst h0
    simp [Sem.run_bind, tund_run (tslice_und he.sl), Sem.run_pure]
  · have hb : o' + 0 + (Builtin.zeroCells zv.cells len).toList.length ≤ c.size := by
      simp only [Builtin.zeroCells, Array.length_toList, Array.size_map, Array.size_range, hzs]; omega
    have hst := run_storeCells (P := P) (b := p) (T := T) (fz := fz) (Builtin.zeroCells zv.cells len).toList w c o' 0 hc hb hz (by
      intro v hv
      simp only [Builtin.zeroCells, Array.mem_toList_iff, Array.mem_map, Array.mem_range] at hv
      obtain ⟨i, hi, rfl⟩ := hv
      rw [hzs] at hi
      have hk0 : 0 < k := he.pos
      have hm : i % zv.cells.size < z.length := by rw [hzs, hz0]; exact Nat.mod_lt _ hk0
      obtain ⟨x', hx', r⟩ := vrs_get (h2 F) (show z[i % zv.cells.size]? = some z[i % zv.cells.size] by simp [hm])
      rw [getElem!_def, hx']
      exact leaf_r r (by simp only [List.all_eq_true] at hzl; exact hzl _ (List.getElem_mem _)))
    refine ⟨.tup [], .tuple #[], _, F, w.putObj p (.cells (putA c (o' + 0) (Builtin.zeroCells zv.cells len).toList) T fz), hop.exec ?_, hk, ho.put (hget_ns hg) (tkS (e := e) (z := z) (nn := 0) (by rw [putA_size]) hl' hz hr (fun i hi => by rw [putA_get, if_neg (by omega)])), .tup [] #[] rfl (fun i v hv => by simp at hv), Trans.put _ _ (hget_ns hg)⟩
    rw [ea]
    unfold Builtin.clear_
    have h0' : len ≠ 0 := h0
    cases len with
    | zero => exact absurd rfl h0
    | succ l =>
      simp only [List.getElem?_toArray, List.getElem?_cons_zero, Sem.run_bind, tund_run (tslice_und he.sl), Result.andThen_ok, h1, hst, Sem.run_pure]
theorem Safe.eqnil {d : Nat} {T U : TypeId} {p q : Operand} {cs : List V} {len : Nat} (hop : o.op = .binOp .eql T p q U) (hT : tkd P T = some 2) (hp : evX m p = some (.fslice cs len)) (hq : evX m q = some .nilslice) (hr : rdyO arr kn m n o = some d) (hd : dry (.fslice cs len) = true)
    (hs : ∀ b, (b = true → cs = [] ∧ len = 0) → Safe nb P ρr n Q (.ops arr .no os κ ((d, none) :: kn) ((d, .bool b) :: m) h nx hf dl)) : Safe nb P ρr n Q (.ops arr .no (o :: os) κ kn m h nx hf dl) := by
  refine Safe.op hr (LS.real fun ρ hg hn ht => ?_)
  have hp' := evX_ren (ρ := ρ) hp
  rw [dry_ren ρ hd] at hp'
  have hq' := evX_ren (ρ := ρ) hq
  refine OpS.eqnil hop hT hp' hq' fun b hb => ?_
  exact ⟨ρ, .bool b, h, nx, hf, agr.refl _ _, hg, by rw [renT_pu]; exact Ent.refl _ _, hs b hb⟩
theorem Safe.clr {sT e : TypeId} {a : Operand} {k by_ len cap p o' nn : Nat} {T : TypeId} {z cs : List V} (hop : o.op = .call { callee := .builtin .clear, args := #[a], argTypes := #[sT] }) (he : elemE P sT = some (e, k, by_, z)) (hzl : z.all leafV = true)
    (ha : evX m a = some (.slice p o' len cap)) (hg : hget h p = some (.cells T cs nn)) (hl : o' + len * k ≤ cs.length) (hr : gdOk arr kn m o = true)
    (hs : Safe nb P ρr n Q (.ops arr .no os κ kn m (hset h p (.cells T (cs.take o') nn)) nx hf dl)) : Safe nb P ρr n Q (.ops arr .no (o :: os) κ kn m h nx hf dl) := by
  refine Safe.opN hr (LS.real fun ρ gd hn ht => ?_)
  obtain ⟨c, hcb⟩ := evX_vld ht ha
  have hg' := hget_ren (ρ := ρ) hg hn
  have ha' := evX_ren (ρ := ρ) ha
  simp only [renV, hcb] at ha'
  rw [ky_eq hcb] at hg'
  simp only [renO] at hg'
  refine OpS.clear ⟨hop⟩ (elemE_ok he) hzl ha' hg' (by rw [renL_length]; exact hl) ?_
  have hset' := hset_ren (ρ := ρ) (hf := hf) (o' := .cells T (cs.take o') nn) hg hn
  rw [ky_eq hcb] at hset'
  have hd : o.dst = none := by
    unfold gdOk at hr
    split at hr
    · split at hr
      · assumption
      · simp at hr
    · simp at hr
  refine ⟨ρ, .tup [], _, nx, hf, agr.refl _ _, hset_keys gd, ?_, hs⟩
  rw [hd, ← hset', renO, renL_take]
  exact Ent.refl _ _
def isSlO (P : Program) (m : Fl) (o : Oper) : Option (Nat × Nat × Nat × Nat × Nat × Option Int × Option Int) := match o.op with
  | .slice T x lo hi none => match evX m x with
    | some (.slice b off len cap) => match tslice P T with
      | some e => match tsz P e with
        | some k => match evI m lo with
          | some l => match evI m hi with
            | some r => some (b, off, len, cap, k, l, r)
            | none => none
          | none => none
        | none => none
      | none => none
    | _ => none
  | _ => none
theorem eva_slO {b off len cap k : Nat} {lo hi : Option Int} (l r : Nat) (hl : lo.getD ((0 : Nat) : Int) = (l : Int)) (hr : hi.getD (len : Int) = (r : Int)) (h1 : l ≤ r) (h2 : r ≤ cap) (hc : isSlO P m o = some (b, off, len, cap, k, lo, hi)) :
    EvA P m o (.slice b (if cap = l then off else off + l * k) (r - l) (cap - l)) := by
  intro ρ h ht
  unfold isSlO at hc
  split at hc
  · rename_i hop
    split at hc
    · rename_i hx
      split at hc
      · rename_i hT
        split at hc
        · rename_i hz
          split at hc
          · rename_i hlo
            split at hc
            · rename_i hhi
              simp only [Option.some.injEq, Prod.mk.injEq] at hc
              obtain ⟨rfl, rfl, rfl, rfl, rfl, rfl, rfl⟩ := hc
              obtain ⟨q1, e1, g1⟩ := evI_B (ρ := ρ) 0 hlo hl
              obtain ⟨q2, e2, g2⟩ := evI_B (ρ := ρ) _ hhi hr
              have e3 : evB (renT ρ m) none = some none := rfl
              obtain ⟨c, hcb⟩ := evX_vld ht hx
              simp only [evP, hop, evX_ren hx, renV, hcb, e1, e2, e3, evSlice, hT, hz, g1, g2, Option.getD_none]
              rw [if_pos ⟨.inl trivial, h1, h2, Nat.le_refl _⟩]
            · simp at hc
          · simp at hc
        · simp at hc
      · simp at hc
    · simp at hc
  · simp at hc
theorem Safe.slO {d : Nat} {dr : Dr} {b off len cap k : Nat} {lo hi : Option Int} (l r : Nat) (h1 : l ≤ r) (h2 : r ≤ cap) (hc : isSlO P m o = some (b, off, len, cap, k, lo, hi)) (hl : lo.getD ((0 : Nat) : Int) = (l : Int)) (hr : hi.getD (len : Int) = (r : Int)) (hrd : rdyO arr kn m n o = some d)
    (hs : Safe nb P ρr n Q (.ops arr dr.nx os κ ((d, none) :: kn) ((d, .slice b (if cap = l then off else off + l * k) (r - l) (cap - l)) :: m) h nx hf dl)) (hck : ckA h (.slice b (if cap = l then off else off + l * k) (r - l) (cap - l)) dr = true := by rfl) : Safe nb P ρr n Q (.ops arr dr (o :: os) κ kn m h nx hf dl) := Safe.valA (eva_slO l r hl hr h1 h2 hc) hrd hs hck
theorem cat_put {α : Type} {enc : α → List V} {k : Nat} (hk : ∀ x, (enc x).length = k) {R : List α} {i : Nat} (hi : i < R.length) (v : α) : putL (cat enc R) (i * k) (enc v) = cat enc (R.set i v) := by
  unfold putL
  have e : i * k + (enc v).length = (i + 1) * k := by rw [hk, Nat.add_mul, Nat.one_mul]
  rw [e, cat_take hk, cat_drop hk, List.set_eq_take_append_cons_drop, if_pos hi, cat_append, cat_cons, List.append_assoc]
end Go.Fw
end

section
namespace Go.Fw
variable [Gl]
variable {P : Program} {ρr : Option Nat} {n nb : Nat} {Q : LPo} {arr : Array Oper} {o : Oper} {os : List Oper} {κ : List Kt} {kn : Kn} {m : Fl} {h hf : Hp} {nx : Nat} {dl : List Nat}
variable {fu : Nat} {L : List Nat} {K : KD} {i : Nat}
end Go.Fw
end
