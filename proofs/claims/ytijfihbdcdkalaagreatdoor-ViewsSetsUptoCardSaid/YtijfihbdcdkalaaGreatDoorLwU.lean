/- A part of the proof: LwU -/
import Derived.Test.YtijfihbdcdkalaaGreatDoorLwT
set_option linter.all false
set_option linter.unusedSectionVars false
set_option linter.unusedVariables false
set_option linter.unusedSimpArgs false
namespace Go.Fw
variable [Gl]
variable {P : Program} {ρr : Option Nat} {n nb : Nat} {Q : LPo} {arr : Array Oper} {o : Oper} {os : List Oper} {κ : List Kt} {kn : Kn} {m : Fl} {h hf : Hp} {nx : Nat} {dl : List Nat}
theorem dlOk_ret2 {rs : List ResultVar} {t : Fr} {v : V} (a : Hp) (hv : ∀ hf : Hp, (a ++ hf).ns.Nodup → resAll P rs t (a ++ hf) = some v) : ∀ (dl : List Nat) (hf : Hp), (a ++ hf).ns.Nodup → dlOk dl hf → RetOk P rs (fun u h' => u = v ∧ ∃ hf2, h' = a ++ hf2) t dl (a ++ hf)
  | [], hf, hn, _ => ⟨v, hv hf hn, rfl, hf, rfl⟩
  | r :: dl, hf, hn, hd => by
    obtain ⟨h1, h2⟩ := hget_right hd.1 hn
    refine ⟨h1, ?_⟩
    rw [h2]
    exact dlOk_ret2 a hv dl _ (by rw [← h2]; exact hdel_nodup r hn) hd.2
def RetY (P : Program) (rs : List ResultVar) (Φ : V → Hp → Prop) : LPo := fun e m h nx hf dl => (e = .normal ∨ e = .ret) ∧ dl = [] ∧ ∃ r, FinOk P rs r m h ∧ Φ r hf
theorem Tri.of_safeY {f : FuncId} {fn : Func} {c : Code} {as : List V} {Φ : V → Hp → Prop} {h0 : Hp} (hf : P.funcs[f]? = some fn) (hb : fn.body = some c) {rs : Array ResultVar} (hrs : fn.results = rs) (hn : fn.ntmps = n) (hl : (Nat.ble as.length n && as.all dry) = true)
    (hs : Safe 0 P none n (RetY P rs.toList Φ) (.code c [] [] (frm 0 as) [] 0 h0 [])) : Tri P f as h0 Φ := by
  simp only [Bool.and_eq_true] at hl
  intro F w av ho ha
  subst hrs
  refine callsIn_of_wp_marks hf hb (FW_fn none f) ?_ rfl
  subst hn
  have hs' := hs knNil (fun _ => none) ⟨fun _ _ => rfl, fun p hp => by simp at hp, Nat.zero_le _⟩
  rw [← frA_ren hl.2] at hs'
  refine wpIn_mono (hs' F w _ ho (frA_r ha (Nat.le_of_ble_eq_true hl.1))) ?_
  rintro e ⟨tm, ds⟩ w' ⟨t', h', dl', F', ⟨ρ', m', h2, nx', hf', a, g, en, q⟩, ho', hf'', hd, tr⟩
  simp only at hd hf''
  subst hd
  obtain ⟨he, rfl, r, hfin, hΦ⟩ := q
  obtain ⟨m3, h3, r0, g3, e3, hv, hdr, hle⟩ := hfin.sound (hf := hf') g
  obtain ⟨F2, o2, f2, tr2⟩ := (en.trans e3) F' w' fn.ntmps tm ho' hf''
  have hres : resAll P fn.results.toList (renT ρ' m3) (renH ρ' h3 ++ hf') = some r0 := by rw [resA_ren (vldT_of f2) o2.nodup hv, dry_ren ρ' hdr]
  have key := leaves_sound (fn := fn) (Φ := fun v h' => v = r0 ∧ h' = renH ρ' h3 ++ hf') (R := fun e w' => ∃ v x h' F', e = .returned x ∧ Φ v h' ∧ Own F' h' w' ∧ VR F' v x ∧ Trans F h0 w F' h' w') [] _ w' ⟨_, hres, rfl, rfl⟩ o2 f2
    fun v x h4 w4 p o4 q4 tr4 => by
      obtain ⟨p1, p2⟩ := p
      subst p1 p2
      exact ⟨r, x, hf', F2, rfl, hΦ, o4.sub (List.sublist_append_right _ _), hle _ _ q4, (tr.trans (tr2.trans tr4)).trans (Trans.sub (List.sublist_append_right _ _))⟩
  cases e with
  | normal => exact key
  | ret => exact key
  | _ => rcases he with h | h <;> cases h
def yieldee? (m : Fl) (o : Oper) : Option (Nat × List V) := match o.op with
  | .call c => match c.callee with
    | .value fo => match evX m fo with
      | some (.yield l) => match evXs m c.args.toList with
        | some as => some (l, as)
        | none => none
      | _ => none
    | _ => none
  | _ => none
theorem yieldee?_inv {l : Nat} {as : List V} (hc : yieldee? m o = some (l, as)) : ∃ c fo, o.op = .call c ∧ c.callee = .value fo ∧ evX m fo = some (.yield l) ∧ evXs m c.args.toList = some as := by
  unfold yieldee? at hc
  split at hc
  · rename_i c hop
    split at hc
    · rename_i fo hfo
      split at hc
      · rename_i l' he
        split at hc
        · rename_i bs hb
          simp only [Option.some.injEq, Prod.mk.injEq] at hc
          obtain ⟨rfl, rfl⟩ := hc
          exact ⟨c, fo, hop, hfo, he, hb⟩
        · simp at hc
      · simp at hc
    · simp at hc
  · simp at hc
theorem YieldS.framed {l : Nat} {as : List V} {K : V → Hp → Prop} (hy : YieldS P l as hf K) (h0 : Hp) : YieldS P l as (h0 ++ hf) fun v h' => ∃ h1, h' = h0 ++ h1 ∧ K v h1 := by
  intro F w av ρ o a next Q' ho ha hn
  have hp : (hf ++ h0).Perm (h0 ++ hf) := List.perm_append_comm
  have ho1 := ho.perm hp
  refine hy F w av ρ o a next Q' (ho1.sub (List.sublist_append_left _ _)) ha fun v x h' F' w' k o' r tr => ?_
  obtain ⟨g1, g2, g3⟩ := own_frame ho1 o' tr
  have hp2 : (h0 ++ h').Perm (h' ++ h0) := List.perm_append_comm
  exact hn v x _ F' w' ⟨h', rfl, k⟩ (g1.perm hp2) r (((Trans.perm hp).trans g2).trans (Trans.perm hp2))
theorem Safe.yield {d l : Nat} {as : List V} {K : V → Hp → Prop} (hy : YieldS P l as hf K) (hc : yieldee? m o = some (l, as)) (hr : rdyO arr kn m n o = some d) (hside : as.all dry = true)
    (hs : ∀ v hf', K v hf' → dry v = true ∧ Safe nb P ρr n Q (.ops arr .no os κ ((d, none) :: kn) ((d, v) :: m) h nx hf' dl)) : Safe nb P ρr n Q (.ops arr .no (o :: os) κ kn m h nx hf dl) := by
  obtain ⟨c, fo, hop, hfo, he, hb⟩ := yieldee?_inv hc
  refine Safe.op hr (LS.real fun ρ hg hn ht => ?_)
  have h1 := evX_ren (ρ := ρ) he
  have h2 := evXs_ren (ρ := ρ) hb
  rw [dryL_ren ρ hside] at h2
  refine OpS.yield hop hfo h1 h2 ((hy.framed (renH ρ h)).mono ?_)
  rintro v h' ⟨hf', rfl, k⟩
  obtain ⟨hd, hS⟩ := hs v hf' k
  exact ⟨ρ, v, h, nx, hf', agr.refl _ _, hg, by rw [renT_pu, dry_ren ρ hd]; exact Ent.refl _ _, hS⟩
theorem Safe.callY {d : Nat} {f : FuncId} {as : List V} {K : V → Hp → Prop} (hp : Tri P f as hf K) (hc : callee? m o = some (f, as)) (hr : rdyO arr kn m n o = some d) (hside : (isGo P f && as.all dry) = true)
    (hs : ∀ v hf', K v hf' → dry v = true ∧ Safe nb P ρr n Q (.ops arr .no os κ ((d, none) :: kn) ((d, v) :: m) h nx hf' dl)) : Safe nb P ρr n Q (.ops arr .no (o :: os) κ kn m h nx hf dl) := by
  simp only [Bool.and_eq_true] at hside
  refine Safe.callS hc hr fun ρ hg hn ht => ?_
  rw [dryL_ren ρ hside.2]
  have hpm : (hf ++ renH ρ h).Perm (renH ρ h ++ hf) := List.perm_append_comm
  refine CallS.of_tri hside.1 (((hp.frame (renH ρ h)).perm hpm).mono ?_)
  rintro v h' ⟨h1, rfl, k, _⟩
  obtain ⟨hd, hS⟩ := hs v h1 k
  refine ⟨ρ, v, h, nx, h1, agr.refl _ _, hg, ?_, hS⟩
  rw [renT_pu, dry_ren ρ hd]
  exact Ent.perm List.perm_append_comm
def bindL : List Nat → List V → Fl → Fl
  | p :: ps, v :: vs, m => bindL ps vs ((p, v) :: m)
  | _, _, m => m
theorem bindL_ren (ρ : Nat → Option Nat) : ∀ (ps : List Nat) (vs : List V) (m : Fl), vs.all dry = true → bindP ps vs (renT ρ m) = renT ρ (bindL ps vs m)
  | [], vs, m, _ => by cases vs <;> rfl
  | p :: ps, [], m, _ => rfl
  | p :: ps, v :: vs, m, hd => by
    simp only [List.all_cons, Bool.and_eq_true] at hd
    simp only [bindP, bindL]
    rw [← bindL_ren ρ ps vs _ hd.2, renT_cons, dry_ren ρ hd.1]
def RndQ (nx : Nat) (hf : Hp) {α : Type} (hp : α → Hp) (I : α → Prop) (B : Code → α → Prop) : LPo := fun e m2 h2 nx2 hf2 _ => hf2 = hf ∧ ∃ b, (match e with
    | .normal => I b
    | .ret => B .ret b
    | .exit id => B (.exit id) b
    | .goto l => B (.goto l) b
    | _ => False) ∧ Rel nx (sgI nx) m2 h2 nx2 [] (hp b) nx
def AsgQ (nx : Nat) (P : Program) (l : Nat) (n : Nat) (body : Code) (R : LPo) : LPo := fun e m2 h2 nx2 hf2 dl2 => match e with
  | .normal => Safe nx P (some l) n R (.code body [] [] m2 h2 nx2 hf2 dl2)
  | _ => False
theorem sgF_sgI : ∀ (n k : Nat), sgF (sgI n) k = if k < n then some k else none
  | 0, k => by simp [sgI, sgF]
  | n + 1, k => by
    simp only [sgI, sgF]
    cases hb : Nat.beq k n with
    | true => have := Nat.eq_of_beq_eq_true hb; subst this; simp
    | false =>
      have hne : k ≠ n := fun e => by rw [e, Nat.beq_refl] at hb; cases hb
      rw [cond_false, sgF_sgI n k]
      by_cases hk : k < n
      · rw [if_pos hk, if_pos (by omega)]
      · rw [if_neg hk, if_neg (by omega)]
theorem cmp_back {ρ ρ' : Nat → Option Nat} (hf : ∀ k, nx ≤ k → ρ k = none) (ha : agr nx ρ ρ') : cmp ρ' (sgI nx) = ρ := by
  funext k
  simp only [cmp, sgF_sgI]
  by_cases hk : k < nx
  · rw [if_pos hk, Option.bind_some, ha k hk]
  · rw [if_neg hk, Option.bind_none, hf k (by omega)]
theorem Safe.range {α : Type} {g : Operand} {ps : Array Tmp} {asg body : Code} {f : FuncId} {caps : List V} {xs : List (List V)} (hp : α → Hp) (I : Nat → α → Prop) (B : Code → α → Prop) (a0 : α)
    (hit : IterC P f caps xs) (hg : evX m g = some (.clo f caps)) (hgo : (isGo P f && caps.all dryV1 && ps.toList.all (fun p => Nat.blt p n)) = true) (hxs : ∀ a, a ∈ xs → a.length = ps.size ∧ a.all dry = true) (h0 : h = hp a0) (hI : I 0 a0)
    (round : ∀ l k (hk : k < xs.length) b, I k b → Safe nx P (some l) n (AsgQ nx P l n body (RndQ nx hf hp (I (k + 1)) B)) (.code asg [] [] (bindL ps.toList xs[k] m) (hp b) nx hf []))
    (hend : ∀ r b, I xs.length b → Safe nb P none n Q (lv .normal κ [] m (hp b) nx ((r, .deferred) :: hf) (r :: dl)))
    (hjump : ∀ r b c, B c b → Safe nb P none n Q (.code c κ [] m (hp b) nx ((r, .deferred) :: hf) (r :: dl))) :
    Safe nb P none n Q (.code (.rangeFunc g ps asg body) κ kn m h nx hf dl) := by
  subst h0
  simp only [Bool.and_eq_true] at hgo
  intro hk ρ hgd
  have he := evX_ren (ρ := ρ) hg
  rw [renV, dryL1_ren ρ hgo.1.2] at he
  have hg0 : good nx ρ nx (hp a0) := ⟨hgd.fresh, hgd.keys, Nat.le_refl _⟩
  have hperm : ∀ (r : Nat) (b : α), ((renH ρ (hp b)) ++ (r, AObj.deferred) :: hf).Perm ((r, AObj.deferred) :: (renH ρ (hp b) ++ hf)) := fun r b => List.perm_middle
  refine WC.range (fun k h' => ∃ b, I k b ∧ keysOk ρ (hp b) ∧ h' = renH ρ (hp b) ++ hf) (fun c h' => ∃ b, B c b ∧ keysOk ρ (hp b) ∧ h' = renH ρ (hp b) ++ hf) he hgo.1.1 hit (fun p hp => blt_lt (List.all_eq_true.1 hgo.2 p hp)) (fun a ha => (hxs a ha).1) ⟨a0, hI, hgd.keys, rfl⟩ ?_ ?_ ?_
  · rintro l k hkl h' ⟨b, hb, hkeys, rfl⟩
    rw [bindL_ren ρ _ _ _ (hxs _ (List.getElem_mem hkl)).2]
    have hr := round l k hkl b hb knNil ρ ⟨hgd.fresh, hkeys, Nat.le_refl _⟩
    refine hr.mono ?_
    rintro e t' h' dl' ⟨ρ', m', h2, nx', hf', a, gd, en, q⟩
    cases e with
    | normal =>
      refine WC.ent en (WC.post ((q knNil ρ' gd).mono ?_))
      rintro e t3 h3 dl3 ⟨ρ2, m3, h4, nx3, hf3, a2, g2, en2, q2⟩
      obtain ⟨rfl, b2, hq, hrel⟩ := q2
      obtain ⟨_, g3, en3⟩ := hrel.ent g2 hf3
      rw [cmp_back hgd.fresh (a.trans a2)] at g3 en3
      refine ⟨_, _, en2.trans en3, ?_⟩
      cases e with
      | normal => exact ⟨b2, hq, g3.keys, rfl⟩
      | ret => exact ⟨b2, hq, g3.keys, rfl⟩
      | exit id => exact ⟨b2, hq, g3.keys, rfl⟩
      | goto l => exact ⟨b2, hq, g3.keys, rfl⟩
      | _ => exact hq.elim
    | _ => exact q.elim
  · rintro r h' hr ⟨b, hb, hkeys, rfl⟩
    have hs := lv_sound (nb := nb) (P := P) (ρr := none) (n := n) (Q := Q) κ .normal knNil (hend r b hb)
    exact ⟨ρ, m, hp b, nx, _, agr.refl _ _, ⟨hgd.fresh, hkeys, hgd.base⟩, Ent.perm (hperm r b), hs⟩
  · rintro r h' c hr ⟨b, hb, hkeys, rfl⟩
    exact WC.ent (Ent.perm (hperm r b)) (hjump r b c hb knNil ρ ⟨hgd.fresh, hkeys, hgd.base⟩)
end Go.Fw
