/- A part of the proof: CxD -/
import Derived.Test.YtmohgegpcfkooaaGreatDoorCxC
set_option linter.all false
set_option linter.unusedSectionVars false
set_option linter.unusedVariables false
set_option linter.unusedSimpArgs false
namespace Go.Fw
variable [Gl] [Yl]
variable {P : Program} {ρr : Option Nat} {n nb : Nat} {m : Fl} {h hf : Hp} {nx : Nat} {o : Oper} {arr : Array Oper}
omit [Yl] in
def rle2 (ρ : Nat → Option Nat) (ν : Nat → Nat) (ρ' : Nat → Option Nat) (ν' : Nat → Nat) : Prop := (∀ k c, ρ k = some c → ρ' k = some c ∧ ν' k = ν k) ∧ ν' BIG = ν BIG
theorem rle2.rle {ρ ρ' : Nat → Option Nat} {ν ν' : Nat → Nat} (hr : rle2 ρ ν ρ' ν') : rle ρ ρ' := fun k c e => (hr.1 k c e).1
theorem cf_le {ρ ρ' : Nat → Option Nat} {ν ν' : Nat → Nat} (hr : rle2 ρ ν ρ' ν') {b c : Nat} (e : ρ b = some c) (k : Nat) : cf ν' b k = cf ν b k := by unfold cf; rw [(hr.1 b c e).2]
mutual
theorem rV_le {ρ ρ' : Nat → Option Nat} {ν ν' : Nat → Nat} (hr : rle2 ρ ν ρ' ν') {F : Froz} : ∀ (v : V) {x : Value}, VR F (renV ρ (fixV ν v)) x → VR F (renV ρ' (fixV ν' v)) x
  | .ptr b o, x, h => renV_le hr.rle (.ptr b o) h
  | .slice b o l k, x, h => by
    simp only [fixV, renV] at h ⊢
    split at h
    · rename_i c e; rw [(hr.1 _ _ e).1, cf_le hr e]; exact h
    · exact (imp_no h).elim
  | .map b, x, h => renV_le hr.rle (.map b) h
  | .clo f cs, x, h => by
    cases hy : isY cs with
    | true =>
      simp only [fixV, hy, cond_true, renV] at h ⊢
      exact h
    | false =>
    rw [fixV_clo _ hy] at h ⊢
    simp only [renV] at h ⊢
    obtain ⟨vs, rfl, hv⟩ := h.clo_inv
    exact .of_clo ⟨by rw [hv.1]; simp, rL_le hr cs (fun i => vs.getD i undef) hv.2⟩
  | .iface t v, x, h => by
    simp only [fixV, renV] at h ⊢
    obtain ⟨y, rfl, hy⟩ := h.iface_inv
    exact .iface _ _ _ (rV_le hr v hy)
  | .agg cs, x, h => by
    simp only [fixV, renV] at h ⊢
    obtain ⟨vs, rfl, hv⟩ := h.agg_inv
    exact .of_agg ⟨by rw [hv.1]; simp, rL_le hr cs (fun i => vs.getD i undef) hv.2⟩
  | .tup cs, x, h => by
    simp only [fixV, renV] at h ⊢
    obtain ⟨vs, rfl, hv⟩ := h.tup_inv
    exact .of_tup ⟨by rw [hv.1]; simp, rL_le hr cs (fun i => vs.getD i undef) hv.2⟩
  | .int _ _, x, h | .bool _, x, h | .str _, x, h | .flt _ _, x, h | .nilptr, x, h | .fptr _ _, x, h | .nilslice, x, h | .fslice _ _, x, h | .eslice, x, h | .nilmap, x, h | .nilfunc, x, h | .yield _, x, h | .niliface, x, h => by
    simpa only [fixV, renV] using h
theorem rL_le {ρ ρ' : Nat → Option Nat} {ν ν' : Nat → Nat} (hr : rle2 ρ ν ρ' ν') {F : Froz} : ∀ (l : List V) (g : Nat → Value), (∀ (i : Nat) v, (renL ρ (fixL ν l))[i]? = some v → VR F v (g i)) → ∀ (i : Nat) v, (renL ρ' (fixL ν' l))[i]? = some v → VR F v (g i)
  | [], g, h, i, v, hv => by simp [fixL, renL] at hv
  | u :: r, g, h, i, v, hv => by
    cases i with
    | zero =>
      simp only [fixL, renL, List.getElem?_cons_zero, Option.some.injEq] at hv
      subst hv
      exact rV_le hr u (h 0 _ (by simp [fixL, renL]))
    | succ i =>
      simp only [fixL, renL, List.getElem?_cons_succ] at hv
      exact rL_le hr r (fun j => g (j + 1)) (fun j w hw => h (j + 1) w (by simpa only [fixL, renL, List.getElem?_cons_succ] using hw)) i v hv
end
theorem rO_le {ρ ρ' : Nat → Option Nat} {ν ν' : Nat → Nat} (hr : rle2 ρ ν ρ' ν') {F : Froz} {b c : Nat} (hb : ρ b = some c) {o : AObj} {x : Obj} (h : OR F (renO ρ (fixO ν b o)) x) : OR F (renO ρ' (fixO ν' b o)) x := by
  cases o with
  | cells T cs nn =>
    simp only [fixO, renO] at h ⊢
    have e : nf ν' b nn = nf ν b nn := by unfold nf; rw [(hr.1 b c hb).2]
    rw [e]
    generalize nf ν b nn = N at h
    cases h with
    | cells _ _ c fz hl hz hv => exact .cells T _ c fz (by simpa using hl) hz (rL_le hr cs (fun i => c.getD i undef) hv)
  | map es =>
    simp only [fixO, renO, List.map_map] at h ⊢
    cases h with
    | map _ xs clock hl hv hb hd =>
      refine .map _ xs clock (by simpa using hl) (fun i e y he hy => ?_) hb hd
      rw [List.getElem?_map] at he
      simp only [Option.map_eq_some_iff] at he
      obtain ⟨e0, h0, rfl⟩ := he
      have := hv i (renV ρ (fixV ν e0.1), renV ρ (fixV ν e0.2)) y (by rw [List.getElem?_map, h0]; rfl) hy
      exact ⟨rV_le hr _ this.1, rV_le hr _ this.2⟩
  | _ => simpa only [fixO, renO] using h
theorem mem_rH {ρ : Nat → Option Nat} {ν : Nat → Nat} {b : Nat} {o : AObj} (hm : (b, o) ∈ rH ρ ν h) : ∃ p, p ∈ h ∧ b = ky ρ p.1 ∧ o = renO ρ (fixO ν p.1 p.2) := by
  simp only [rH, renH, fixH, List.map_map, List.mem_map] at hm
  obtain ⟨p, hp, e⟩ := hm
  simp only [Function.comp, Prod.mk.injEq] at e
  exact ⟨p, hp, e.1.symm, e.2.symm⟩
theorem rH_ns {ρ : Nat → Option Nat} {ν : Nat → Nat} : (rH ρ ν h).ns = h.ns.map (ky ρ) := by rw [rH, renH_ns, fixH_ns]
theorem rH_app {ρ : Nat → Option Nat} {ν : Nat → Nat} (a b : Hp) : rH ρ ν (a ++ b) = rH ρ ν a ++ rH ρ ν b := by simp only [rH, fixH_app, renH_app]
theorem rH_mem {ρ : Nat → Option Nat} {ν : Nat → Nat} {p : Nat × AObj} (hp : p ∈ h) : (ky ρ p.1, renO ρ (fixO ν p.1 p.2)) ∈ rH ρ ν h := by
  simp only [rH, renH, fixH, List.map_map, List.mem_map]
  exact ⟨p, hp, rfl⟩
theorem rH_ns_le {ρ ρ' : Nat → Option Nat} {ν ν' : Nat → Nat} (hr : rle2 ρ ν ρ' ν') (hk : keysOk ρ h) : (rH ρ' ν' h).ns = (rH ρ ν h).ns := by
  rw [rH_ns, rH_ns]
  refine List.map_congr_left fun k hk' => ?_
  obtain ⟨p, hp, rfl⟩ := List.mem_map.1 hk'
  exact ky_le hr.rle (hk p hp)
theorem own_le2 {ρ ρ' : Nat → Option Nat} {ν ν' : Nat → Nat} (hr : rle2 ρ ν ρ' ν') (hk : keysOk ρ h) {F : Froz} {w : World} {pre post : Hp} (ho : Own F (pre ++ (rH ρ ν h ++ post)) w) :
    Own F (pre ++ (rH ρ' ν' h ++ post)) w ∧ Trans F (pre ++ (rH ρ ν h ++ post)) w F (pre ++ (rH ρ' ν' h ++ post)) w := by
  refine own_map (by simp only [Hp.ns_append, rH_ns_le hr hk]) (fun b o hm => ?_) ho
  rcases List.mem_append.1 hm with hm | hm
  · exact ⟨o, List.mem_append_left _ hm, fun x h => h⟩
  · rcases List.mem_append.1 hm with hm | hm
    · obtain ⟨p, hp, rfl, rfl⟩ := mem_rH hm
      obtain ⟨c, hc⟩ := Option.isSome_iff_exists.1 (hk p hp)
      refine ⟨renO ρ (fixO ν p.1 p.2), List.mem_append_right _ (List.mem_append_left _ ?_), fun x hx => rO_le hr hc hx⟩
      rw [ky_le hr.rle (hk p hp)]
      exact rH_mem hp
    · exact ⟨o, List.mem_append_right _ (List.mem_append_right _ hm), fun x h => h⟩
theorem fr_le2 {ρ ρ' : Nat → Option Nat} {ν ν' : Nat → Nat} (hr : rle2 ρ ν ρ' ν') {F : Froz} {k : Nat} {tm : Array Value} {d : Option Nat} {v : V} (hfr : FrR F k (updO (rT ρ ν m) d v) tm) : FrR F k (updO (rT ρ' ν' m) d v) tm := by
  have key : ∀ (i : Nat) u, rT ρ' ν' m i = some u → ∃ u0, rT ρ ν m i = some u0 ∧ ∀ x, VR F u0 x → VR F u x := fun i u hu => by
    rw [rT_get] at hu
    simp only [Option.map_eq_some_iff] at hu
    obtain ⟨z, hz, rfl⟩ := hu
    exact ⟨rV ρ ν z, by rw [rT_get, hz]; rfl, fun x hx => rV_le hr z hx⟩
  refine ⟨hfr.size, fun i u hv => ?_⟩
  cases d with
  | none =>
    obtain ⟨u0, h0, h1⟩ := key i u hv
    obtain ⟨x, hx, r⟩ := hfr.at_ i u0 h0
    exact ⟨x, hx, h1 x r⟩
  | some d =>
    simp only [updO, upd] at hv
    by_cases hi : i = d
    · rw [if_pos hi] at hv
      exact hfr.at_ i u (by simp only [updO, upd]; rw [if_pos hi]; exact hv)
    · rw [if_neg hi] at hv
      obtain ⟨u0, h0, h1⟩ := key i u hv
      obtain ⟨x, hx, r⟩ := hfr.at_ i u0 (by simp only [updO, upd]; rw [if_neg hi]; exact h0)
      exact ⟨x, hx, h1 x r⟩
theorem ent_le3 {ρ ρ' : Nat → Option Nat} {ν ν' : Nat → Nat} (hr : rle2 ρ ν ρ' ν') {pre post : Hp} {d : Option Nat} {v : V} (hk : keysOk ρ h) : Ent (updO (rT ρ ν m) d v) (pre ++ (rH ρ ν h ++ post)) (updO (rT ρ' ν' m) d v) (pre ++ (rH ρ' ν' h ++ post)) := by
  intro F w k tm ho hfr
  obtain ⟨a, b⟩ := own_le2 hr hk ho
  exact ⟨F, a, fr_le2 hr hfr, b⟩
omit [Yl] in
def nex (ν : Nat → Nat) (k N : Nat) : Nat → Nat := fun i => if i = k ∧ i ≠ BIG then N else ν i
theorem rex_le2 {ρ : Nat → Option Nat} {ν : Nat → Nat} {k b N : Nat} (hk : ρ k = none) : rle2 ρ ν (rex ρ k b) (nex ν k N) := ⟨fun i c hi => by
  have hne : i ≠ k := fun e => by rw [e, hk] at hi; cases hi
  simp only [rex, nex, if_neg hne]
  rw [if_neg (fun e => hne e.1)]
  exact ⟨hi, rfl⟩, by simp [nex]⟩
theorem agn_nex {ν : Nat → Nat} (hb : nb ≤ nx) (N : Nat) : agn nb ν (nex ν nx N) := fun k hk => by
  simp only [nex]
  rw [if_neg]
  rintro ⟨e1, e2⟩
  rcases hk with h | h
  · omega
  · exact e2 h
theorem nex_self {ν : Nat → Nat} {k N : Nat} (h : k ≠ BIG) : nex ν k N k = N := by simp [nex, h]
theorem LE.new {K : V → Hp → Nat → Hp → Prop} {C : Nat → Prop} {mk : Nat → Nat → V} {obj : (Nat → Option Nat) → (Nat → Nat) → Nat → AObj} {v : V} {ob : AObj} {h1 : Hp} (hd1 : h1.Sublist h)
    (hmk : ∀ ρ ν b N, rV (rex ρ nx b) (nex ν nx N) v = mk b N)
    (hoe : ∀ ρ ν b N, (∀ k, nx ≤ k → ρ k = none) → ltO nx ob = true → renO (rex ρ nx b) (fixO (nex ν nx N) nx ob) = obj ρ ν N)
    (hob : ∀ ρ ν b N x F, ρ nx = none → OR F (obj ρ ν N) x → OR F (renO (rex ρ nx b) (fixO (nex ν nx N) nx ob)) x)
    (hs : ∀ (ρ : Nat → Option Nat) (ν : Nat → Nat) (K : V → Hp → Prop), (rH ρ ν h ++ hf).ns.Nodup → vldT ρ (fixM ν m) → (∀ b N, b ∉ (rH ρ ν h1 ++ hf).ns → C N → K (mk b N) ((b, obj ρ ν N) :: (rH ρ ν h1 ++ hf))) → OpS P ρr n o (rT ρ ν m) (rH ρ ν h ++ hf) K)
    (hk : K v ((nx, ob) :: h1) (nx + 1) hf) : LE nb P ρr n o m h nx hf K :=
  LE.real fun ρ ν hg hn ht => hs ρ ν _ hn ht fun b N hb hC => by
    have hr : rle2 ρ ν (rex ρ nx b) (nex ν nx N) := rex_le2 (hg.fresh nx (Nat.le_refl _))
    have hg1 : good nb ρ nx h1 := ⟨hg.fresh, fun p hp => hg.keys p (hd1.subset hp), hg.base⟩
    have ek : ky (rex ρ nx b) nx = b := by simp [ky, rex]
    refine ⟨rex ρ nx b, nex ν nx N, v, (nx, ob) :: h1, nx + 1, hf, agr_rex hg.base b, agn_nex hg.base N, hg1.push b ob, ?_, ⟨(hmk _ _ _ _).symm, agr_rex (Nat.le_refl _) b, agn_nex (Nat.le_refl _) N, fun hc => ?_⟩, hk⟩
    rotate_left
    · simp only [ltC] at hc
      split at hc
      · rename_i ho
        rw [rH_cons, ek, hoe ρ ν b N hg.fresh ho, rH_eq2 (agr_rex (Nat.le_refl _) b) (agn_nex (Nat.le_refl _) N) hg.fresh hg1.keys hc]
        rfl
      · simp at hc
    rw [← rT_pu, hmk]
    have e0 : ky (rex ρ nx b) nx = b := by simp [ky, rex]
    rw [rH_cons, List.cons_append, e0]
    refine Ent.trans (ent_le3 (pre := [(b, obj ρ ν N)]) hr hg1.keys) ?_
    intro F w k tm ho hfr
    refine ⟨F, ⟨ho.nodup, fun b' o' hm => ?_, ho.off, ho.frz, ho.gl⟩, hfr, ⟨FLe.refl F, Nat.le_refl _, fun _ _ _ => rfl, fun b hb => .inl hb, fun _ hn => absurd rfl hn, rfl, rfl, rfl, Nat.le_refl _⟩⟩
    rcases List.mem_cons.1 hm with e | hm
    · simp only [Prod.mk.injEq] at e
      obtain ⟨rfl, rfl⟩ := e
      obtain ⟨x, hx, r⟩ := ho.own b' (obj ρ ν N) (by simp)
      exact ⟨x, hx, hob _ _ _ _ _ _ (hg.fresh nx (Nat.le_refl _)) r⟩
    · exact ho.own b' o' (by simp only [List.singleton_append]; exact List.mem_cons_of_mem _ hm)
def TriE (P : Program) (f : FuncId) (as : List V) (h : Hp) (nx : Nat) (Φ : V → Hp → Nat → Prop) : Prop :=
  ∀ ρ ν, good nx ρ nx h → Tri P f (renL ρ (fixL ν as)) (rH ρ ν h) fun v h' => ∃ ρ' ν' v0 h0 nx', agr nx ρ ρ' ∧ agn nx ν ν' ∧ good nx ρ' nx' h0 ∧ v = rV ρ' ν' v0 ∧ h' = rH ρ' ν' h0 ∧ Φ v0 h0 nx'
theorem rle2_of {ρ ρ' : Nat → Option Nat} {ν ν' : Nat → Nat} (hf : ∀ k, nx ≤ k → ρ k = none) (a : agr nx ρ ρ') (b : agn nx ν ν') : rle2 ρ ν ρ' ν' := ⟨fun k c hk => by
  have hlt : k < nx := Nat.lt_of_not_le fun h => by rw [hf k h] at hk; cases hk
  exact ⟨by rw [a k hlt, hk], b k (.inl hlt)⟩, b _ (.inr rfl)⟩
theorem LE.call {K : V → Hp → Nat → Hp → Prop} {f : FuncId} {cc : Call} {fo : Operand} {caps bs : List V} {h0 rest : Hp} {Φ : V → Hp → Nat → Prop} (hop : o.op = .call cc) (hcal : cc.callee = .value fo) (hfo : evX m fo = some (.clo f caps)) (hb : evXs m cc.args.toList = some bs) (hgo : isGo P f = true) (hyc : isY caps = false)
    (hp : TriE P f (bs ++ caps) h0 nx Φ) (hperm : (h0 ++ rest).Perm h) (hk : ∀ v h' nx', Φ v h' nx' → K v (h' ++ rest) nx' hf) : LE nb P ρr n o m h nx hf K :=
  LE.real fun ρ ν hg hn ht => by
    have g0 : good nx ρ nx h0 := ⟨hg.fresh, fun p hp => hg.keys p (hperm.subset (List.mem_append_left _ hp)), Nat.le_refl _⟩
    have hkr : keysOk ρ rest := fun p hp => hg.keys p (hperm.subset (List.mem_append_right _ hp))
    have h1 := evX_rT (ρ := ρ) (ν := ν) hfo
    simp only [rV, fixV_clo ν hyc, renV] at h1
    refine OpS.call hop hcal h1 (evXs_ren (evXs_fix hb)) (CallS.of_tri hgo ?_)
    rw [← renL_append, ← fixL_append]
    have hpm : (rH ρ ν h0 ++ (rH ρ ν rest ++ hf)).Perm (rH ρ ν h ++ hf) := by
      rw [← List.append_assoc, ← rH_app]
      refine List.Perm.append_right hf ?_
      unfold rH renH fixH
      exact (hperm.map _).map _
    refine (((hp ρ ν g0).frame (rH ρ ν rest ++ hf)).perm hpm).mono ?_
    rintro v h' ⟨h1', rfl, ⟨ρ', ν', v0, h0', nx', a, b, g, rfl, rfl, hq⟩, hdis⟩
    have hr := rle2_of hg.fresh a b
    have hbase := hg.base
    have hbase' := g.base
    refine ⟨ρ', ν', v0, h0' ++ rest, nx', hf, fun k hk => a k (by omega), b.le hbase, ⟨g.fresh, fun p hp => ?_, by omega⟩, ?_, ⟨rfl, a, b, fun hc => by
      rw [rH_app, List.append_assoc, rH_eq2 a b hg.fresh hkr (ltC_right hc)]⟩, hk _ _ _ hq⟩
    · rcases List.mem_append.1 hp with hp | hp
      · exact g.keys p hp
      · obtain ⟨c, hc⟩ := Option.isSome_iff_exists.1 (hkr p hp)
        rw [(hr.1 _ _ hc).1]; rfl
    · rw [← rT_pu, rH_app, List.append_assoc]
      exact ent_le3 (pre := rH ρ' ν' h0') hr hkr
theorem evSrc_rV {ρ : Nat → Option Nat} {ν : Nat → Nat} {k mm : Nat} {x : V} {us : List V} (va : vld ρ (fixV ν x)) (hs : evSrc h k x = some (us, mm)) (hdx : ∀ cs l, x = .fslice cs l → us.all dry = true) (hn : (rH ρ ν h ++ hf).ns.Nodup) :
    evSrc (rH ρ ν h ++ hf) k (rV ρ ν x) = some (renL ρ (fixL ν us), mm) := by
  unfold evSrc at hs
  split at hs
  · simp only [Option.some.injEq, Prod.mk.injEq] at hs; obtain ⟨rfl, rfl⟩ := hs; rfl
  · simp only [Option.some.injEq, Prod.mk.injEq] at hs; obtain ⟨rfl, rfl⟩ := hs; rfl
  · split at hs
    · rename_i hg
      split at hs
      · rename_i hl
        simp only [Option.some.injEq, Prod.mk.injEq] at hs
        obtain ⟨rfl, rfl⟩ := hs
        obtain ⟨c, hc⟩ := va
        have hg' := hget_ren (ρ := ρ) (hf := hf) (h := fixH ν h) (by rw [hget_fix, hg]; rfl) hn
        rw [ky_eq hc] at hg'
        simp only [rV, fixV, renV, hc, evSrc]
        rw [show rH ρ ν h = renH ρ (fixH ν h) from rfl, hg']
        simp only [fixO, renO, renL_length, fixL_length]
        rw [if_pos hl, renL_drop, renL_take, fixL_drop, fixL_take]
      · simp at hs
    · simp at hs
  · split at hs
    · rename_i hl
      simp only [Option.some.injEq, Prod.mk.injEq] at hs
      obtain ⟨rfl, rfl⟩ := hs
      simp only [rV, fixV, renV, evSrc]; rw [if_pos hl, dryL_fix ν (hdx _ _ rfl), dryL_ren ρ (hdx _ _ rfl)]
    · simp at hs
  · rename_i s
    split at hs
    · rename_i hk
      simp only [Option.some.injEq, Prod.mk.injEq] at hs
      obtain ⟨rfl, rfl⟩ := hs
      have hd : (s.map fun b => V.int .u8 b.toNat).all dry = true := by simp [dry]
      simp only [rV, fixV, renV, evSrc, if_pos hk]
      rw [dryL_fix ν hd, dryL_ren ρ hd]
    · simp at hs
  · simp at hs
end Go.Fw
