/- A part of the proof: LwS -/
import Derived.Test.YtijfihbdcdkalaaGreatDoorLwR
set_option linter.all false
set_option linter.unusedSectionVars false
set_option linter.unusedVariables false
set_option linter.unusedSimpArgs false
namespace Go.Fw
variable [Gl]
variable {P : Program} {ρr : Option Nat} {n nb : Nat} {Q : LPo} {arr : Array Oper} {o : Oper} {os : List Oper} {κ : List Kt} {kn : Kn} {m : Fl} {h hf : Hp} {nx : Nat} {dl : List Nat} {dr : Dr}
mutual
def okV (ks : List Nat) : V → Bool
  | .ptr b _ | .slice b _ _ _ | .map b => ks.contains b
  | .clo _ l | .agg l | .tup l => okL ks l
  | .iface _ v => okV ks v
  | _ => true
def okL (ks : List Nat) : List V → Bool
  | [] => true
  | v :: r => okV ks v && okL ks r
end
mutual
theorem okV_ren {ρ ρ' : Nat → Option Nat} {ks : List Nat} (hk : ∀ k, ks.contains k = true → ρ' k = ρ k) : ∀ (v : V), okV ks v = true → renV ρ' v = renV ρ v
  | .ptr b o, h => by simp only [okV] at h; simp only [renV, hk b h]
  | .slice b o l c, h => by simp only [okV] at h; simp only [renV, hk b h]
  | .map b, h => by simp only [okV] at h; simp only [renV, hk b h]
  | .clo f l, h => by simp only [okV] at h; simp only [renV, okL_ren hk l h]
  | .agg l, h => by simp only [okV] at h; simp only [renV, okL_ren hk l h]
  | .tup l, h => by simp only [okV] at h; simp only [renV, okL_ren hk l h]
  | .iface t v, h => by simp only [okV] at h; simp only [renV, okV_ren hk v h]
  | .int _ _, h | .bool _, h | .str _, h | .flt _ _, h | .nilptr, h | .fptr _ _, h | .nilslice, h | .fslice _ _, h | .eslice, h | .nilmap, h | .nilfunc, h | .yield _, h | .niliface, h => rfl
theorem okL_ren {ρ ρ' : Nat → Option Nat} {ks : List Nat} (hk : ∀ k, ks.contains k = true → ρ' k = ρ k) : ∀ (l : List V), okL ks l = true → renL ρ' l = renL ρ l
  | [], h => rfl
  | v :: r, h => by simp only [okL, Bool.and_eq_true] at h; simp only [renL, okV_ren hk v h.1, okL_ren hk r h.2]
end
theorem okL_dry1 (ks : List Nat) : ∀ (l : List V), l.all dryV1 = true → okL ks l = true
  | [], _ => rfl
  | v :: r, h => by
    simp only [List.all_cons, Bool.and_eq_true] at h
    simp only [okL, okL_dry1 ks r h.2, Bool.and_true]
    cases v <;> simp_all [dryV1, okV]
def okO (ks : List Nat) : AObj → Bool
  | .cells _ cs _ => okL ks cs
  | .map _ => false
  | _ => true
def okH (ks : List Nat) (h : Hp) : Bool := h.all fun p => ks.contains p.1 && okO ks p.2
def okM (ks : List Nat) (m : Fl) : Bool := m.all fun p => okV ks p.2
theorem okH_ren {ρ ρ' : Nat → Option Nat} {ks : List Nat} (hk : ∀ k, ks.contains k = true → ρ' k = ρ k) : ∀ {h : Hp}, okH ks h = true → renH ρ' h = renH ρ h
  | [], _ => rfl
  | p :: r, h => by
    simp only [okH, List.all_cons, Bool.and_eq_true] at h
    rw [renH_cons, renH_cons, okH_ren hk (h := r) (by simpa [okH] using h.2)]
    congr 1
    simp only [Prod.mk.injEq]
    refine ⟨by simp only [ky, hk _ h.1.1], ?_⟩
    have h2 := h.1.2
    cases hp : p.2 with
    | cells T cs nn => rw [hp] at h2; simp only [okO] at h2; simp only [renO, okL_ren hk cs h2]
    | map es => rw [hp] at h2; simp [okO] at h2
    | _ => rfl
theorem okM_ren {ρ ρ' : Nat → Option Nat} {ks : List Nat} (hk : ∀ k, ks.contains k = true → ρ' k = ρ k) (hm : okM ks m = true) : renT ρ' m = renT ρ m := by
  funext i
  unfold renT
  cases hl : lk m i with
  | none => rfl
  | some v =>
    have : ∃ p ∈ m, p.2 = v := by
      clear hm
      induction m with
      | nil => simp [lk] at hl
      | cons p r ih =>
        simp only [lk] at hl
        cases hb : Nat.beq i p.1 with
        | true => rw [hb] at hl; simp only [cond_true, Option.some.injEq] at hl; exact ⟨p, by simp, hl⟩
        | false => rw [hb] at hl; obtain ⟨q, hq, e⟩ := ih hl; exact ⟨q, List.mem_cons_of_mem _ hq, e⟩
    obtain ⟨p, hp, rfl⟩ := this
    have := List.all_eq_true.1 hm p hp
    simp only [Option.map_some, okV_ren hk p.2 this]
def only (arr : Array Oper) (j : Ord) : Bool := rdy arr j.1 == [hdO j]
theorem Safe.effD {d : Nat} {j : Ord} {c : Bool × Bool} {ck : List (Bool × Bool)} (hon : only arr j = true) (hr : rdyO arr kn m n o = some d)
    (hW : ∀ ρ, good nb ρ nx h → (renH ρ h ++ hf).ns.Nodup → vldT ρ m → WOpQ P ρr n o (rs arr (renT ρ m) o) (renH ρ h ++ hf) fun v h' => ∃ ρ' v' h2 nx', agr nb ρ ρ' ∧ good nb ρ' nx' h2 ∧ v = renV ρ' v' ∧ vld ρ' v' ∧ h' = renH ρ' h2 ++ hf ∧ h'.ns.Nodup ∧ rle ρ ρ' ∧ renT ρ' m = renT ρ m ∧
      Safe nb P ρr n Q (.ops arr (.at_ (nxO j) ck) os κ ((d, none) :: kn) ((d, v') :: m) h2 nx' hf dl)) :
    Safe nb P ρr n Q (.ops arr (.at_ j (c :: ck)) (o :: os) κ kn m h nx hf dl) := by
  intro hd hk ρ hg hn ht
  obtain ⟨hgd, hdst, hlt⟩ := rdyO_run hk hr
  obtain ⟨ho, _, hdt⟩ := hd.tail
  simp only [only, beq_iff_eq] at hon
  have hw0 := hW ρ hg hn ht
  simp only [List.length_cons]
  rw [wA]
  refine .inr ⟨fun e => by rw [e] at hon; simp at hon, fun i hi oi hoi => ?_⟩
  rw [hon] at hi
  obtain rfl : i = hdO j := by simpa using hi
  obtain rfl : o = oi := by rw [ho] at hoi; exact Option.some.inj hoi
  refine wStep.sem (dstOk_of hdst hlt) (gd_yes (i := hdO j) (gdL_S hgd)) (WOpQ_mono hw0 ?_)
  rintro v h' ⟨ρ', v', h2, nx', a, g, rfl, hv, rfl, hnd, hle, hm, hs⟩
  have hw := hs hdt (hk.cons fun b hb => by simp at hb) ρ' g hnd (vldT_c (fun i u hu => by
    have := ht i u hu
    cases u <;> first
      | trivial
      | (obtain ⟨c, hc⟩ := this; exact ⟨c, hle _ _ hc⟩)) hv)
  rw [renT_cons, hm] at hw
  rw [hdst]
  refine wA_mono ?_ _ _ _ _ hw
  rintro t2 h3 ⟨ρ2, kn2, m2, h4, nx2, hf2, a2, g2, en2, hk2, q2⟩
  exact ⟨ρ2, kn2, m2, h4, nx2, hf2, a.trans a2, g2, en2, hk2, q2⟩
theorem Safe.appD {d k kk by_ len mm N : Nat} {j : Ord} {cf : Bool × Bool} {ck : List (Bool × Bool)} {sT e xT : TypeId} {a b : Operand} {z cs us cs2 : List V} {x : V} {len2 : Nat} (hop : o.op = .call { callee := .builtin .append, args := #[a, b], argTypes := #[sT, xT] }) (he : elemE P sT = some (e, kk, by_, z)) (hxT : appT P xT = true)
    (ha : evX m a = some (.slice k 0 len N)) (hb : evX m b = some x) (hg : hget h k = some (.cells e cs (N * kk))) (hsrc : evSrc h kk x = some (us, mm)) (hr : rdyO arr kn m n o = some d) (hcs2 : cs ++ us = cs2) (hl2 : len + mm = len2)
    (hlen : cs.length = len * kk) (hud : us.all dry = true) (hlf : us.all leafV = true) (hbd : len + mm ≤ 100000000) (hon : only arr j = true) (hok : okM h.ns m = true) (hoh : okH h.ns h = true)
    (hs : ∀ N', len2 ≤ N' → Safe nb P ρr n Q (.ops arr (.at_ (nxO j) ck) os κ ((d, none) :: kn) ((d, .slice nx 0 len2 N') :: m) ((nx, .cells e cs2 (N' * kk)) :: hdel h k) (nx + 1) hf dl)) :
    Safe nb P ρr n Q (.ops arr (.at_ j (cf :: ck)) (o :: os) κ kn m h nx hf dl) := by
  subst hcs2 hl2
  have hbd2 := bnd_app (elemE_b he) hbd
  refine Safe.effD hon hr fun ρ hg2 hn ht => ?_
  have ha' := evX_ren (ρ := ρ) ha
  obtain ⟨c, hc⟩ := evX_vld ht ha
  have hg' := hget_ren (ρ := ρ) hg hn
  have hdel' := hdel_ren (ρ := ρ) (hf := hf) hg hn
  rw [ky_eq hc] at hg' hdel'
  simp only [renV, hc] at ha'
  have hopd : ∀ y, y = a ∨ y = b → y ∈ o.op.operands.toList := fun y hy => by
    simp only [hop, Op.operands, Call.operands, Array.toList_append, List.mem_append]
    right; rcases hy with rfl | rfl <;> simp
  have key : OpS P ρr n o (rs arr (renT ρ m) o) (renH ρ h ++ hf) fun v h' => ∃ ρ' v' h2 nx', agr nb ρ ρ' ∧ good nb ρ' nx' h2 ∧ v = renV ρ' v' ∧ vld ρ' v' ∧ h' = renH ρ' h2 ++ hf ∧ h'.ns.Nodup ∧ rle ρ ρ' ∧ renT ρ' m = renT ρ m ∧
      Safe nb P ρr n Q (.ops arr (.at_ (nxO j) ck) os κ ((d, none) :: kn) ((d, v') :: m) h2 nx' hf dl) := by
    refine OpS.append_lin ⟨hop⟩ (elemE_ok he) hxT (by rw [evO_rs (hopd a (.inl rfl))]; exact ha') (by rw [evO_rs (hopd b (.inr rfl))]; exact evX_ren hb) hg' (by rw [renL_length]; omega) (evSrc_ren (evX_vld ht hb) hsrc hud hn) hlf hbd2 fun q N' hq hN' => ?_
    rw [hdel'] at hq ⊢
    have e1 : (renL ρ cs).take (len * kk) ++ us = renL ρ (cs ++ us) := by
      rw [List.take_of_length_le (by rw [renL_length]; omega), renL_append, dryL_ren ρ hud]
    have hr2 := rex_le (b := q) (hg2.fresh nx (Nat.le_refl _))
    have hks : ∀ i, h.ns.contains i = true → rex ρ nx q i = ρ i := fun i hi => by
      obtain ⟨p, hp, rfl⟩ := List.mem_map.1 (by simpa using hi : i ∈ h.ns)
      obtain ⟨c', hc'⟩ := Option.isSome_iff_exists.1 (hg2.keys p hp)
      rw [hc', hr2 _ _ hc']
    have hmem := hget_mem hg
    have h1 := List.all_eq_true.1 hoh _ hmem
    simp only [Bool.and_eq_true, okO] at h1
    have hcs : renL (rex ρ nx q) (cs ++ us) = renL ρ (cs ++ us) := by
      rw [renL_append, renL_append, dryL_ren _ hud, dryL_ren _ hud, okL_ren hks cs h1.2]
    have hdl : renH (rex ρ nx q) (hdel h k) = renH ρ (hdel h k) := okH_ren hks (by
      rw [okH, List.all_eq_true]
      exact fun p hp => List.all_eq_true.1 hoh p ((hdel_sub h k).subset hp))
    have hnd2 := hdel_nodup c hn
    rw [hdel'] at hnd2
    have heq : (q, AObj.cells e ((renL ρ cs).take (len * kk) ++ us) (N' * kk)) :: (renH ρ (hdel h k) ++ hf) = renH (rex ρ nx q) ((nx, .cells e (cs ++ us) (N' * kk)) :: hdel h k) ++ hf := by
      rw [e1, renH_cons, hdl]
      simp only [renO, hcs, ky, rex, if_pos, Option.getD_some, List.cons_append]
    refine ⟨rex ρ nx q, .slice nx 0 (len + mm) N', (nx, .cells e (cs ++ us) (N' * kk)) :: hdel h k, nx + 1, agr_rex hg2.base q, (hg2.del k).push q _, by simp [renV, rex], ⟨q, by simp [rex]⟩, heq, ?_, hr2, okM_ren hks hok, hs N' hN'⟩
    exact List.nodup_cons.2 ⟨hq, hnd2⟩
  refine OpS.mono key fun v h' hk => ⟨hk, fun e => ?_⟩
  unfold calm at e
  simp [hop] at e
end Go.Fw
