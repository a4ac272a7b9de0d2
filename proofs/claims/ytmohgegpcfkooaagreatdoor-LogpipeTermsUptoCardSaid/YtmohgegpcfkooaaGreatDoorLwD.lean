/- A part of the proof: LwD -/
import Derived.Test.YtmohgegpcfkooaaGreatDoorLwC
set_option linter.all false
set_option linter.unusedSectionVars false
set_option linter.unusedVariables false
set_option linter.unusedSimpArgs false
namespace Go.Fw
variable [Gl]
abbrev LPo := Exit → Fl → Hp → Nat → Hp → List Nat → Prop
structure good (nb : Nat) (ρ : Nat → Option Nat) (nx : Nat) (h : Hp) : Prop where
  fresh : ∀ k, nx ≤ k → ρ k = none
  keys : keysOk ρ h
  base : nb ≤ nx
def agr (nb : Nat) (ρ ρ' : Nat → Option Nat) : Prop := ∀ k, k < nb → ρ' k = ρ k
theorem agr.refl (nb : Nat) (ρ : Nat → Option Nat) : agr nb ρ ρ := fun _ _ => rfl
theorem agr.trans {nb : Nat} {ρ ρ' ρ'' : Nat → Option Nat} (h : agr nb ρ ρ') (h' : agr nb ρ' ρ'') : agr nb ρ ρ'' := fun k hk => (h' k hk).trans (h k hk)
def liftQ (nb : Nat) (ρ : Nat → Option Nat) (Q : LPo) : Po := fun e t' h' dl' => ∃ ρ' m' h2 nx' hf', agr nb ρ ρ' ∧ good nb ρ' nx' h2 ∧ Ent t' h' (renT ρ' m') (renH ρ' h2 ++ hf') ∧ Q e m' h2 nx' hf' dl'
def liftK (nb : Nat) (ρ : Nat → Option Nat) (Q : Fl → Hp → Nat → Hp → Prop) : Fr → Hp → Prop := fun t' h' => ∃ ρ' m' h2 nx' hf', agr nb ρ ρ' ∧ good nb ρ' nx' h2 ∧ Ent t' h' (renT ρ' m') (renH ρ' h2 ++ hf') ∧ Q m' h2 nx' hf'
variable {P : Program} {ρr : Option Nat} {n nb : Nat}
def WCL (nb : Nat) (P : Program) (ρr : Option Nat) (n : Nat) (c : Code) (m : Fl) (h : Hp) (nx : Nat) (hf : Hp) (dl : List Nat) (Q : LPo) : Prop :=
  ∀ ρ, good nb ρ nx h → WC P ρr n c (renT ρ m) (renH ρ h ++ hf) dl (liftQ nb ρ Q)
def LO (nb : Nat) (P : Program) (ρr : Option Nat) (n : Nat) (arr : Array Oper) (os : List Oper) (m : Fl) (h : Hp) (nx : Nat) (hf : Hp) (K : Fl → Hp → Nat → Hp → Prop) : Prop :=
  ∀ ρ, good nb ρ nx h → RO P ρr n arr os (renT ρ m) (renH ρ h ++ hf) (liftK nb ρ K)
variable {c x y : Code} {m : Fl} {h hf : Hp} {nx : Nat} {dl : List Nat} {Q : LPo} {arr : Array Oper} {o : Oper} {os : List Oper} {K : Fl → Hp → Nat → Hp → Prop}
theorem liftQ.self {ρ : Nat → Option Nat} {e : Exit} (hg : good nb ρ nx h) (hq : Q e m h nx hf dl) : liftQ nb ρ Q e (renT ρ m) (renH ρ h ++ hf) dl := ⟨ρ, m, h, nx, hf, agr.refl _ _, hg, Ent.refl _ _, hq⟩
theorem WCL.mono {Q' : LPo} (hw : WCL nb P ρr n c m h nx hf dl Q) (hq : ∀ e m h nx hf dl, Q e m h nx hf dl → Q' e m h nx hf dl) : WCL nb P ρr n c m h nx hf dl Q' := fun ρ hg =>
  (hw ρ hg).mono fun e t h dl ⟨ρ', m', h2, nx', hf', a, g, en, q⟩ => ⟨ρ', m', h2, nx', hf', a, g, en, hq _ _ _ _ _ _ q⟩
theorem WCL.skip (hq : Q .normal m h nx hf dl) : WCL nb P ρr n .skip m h nx hf dl Q := fun ρ hg => WC.skip (liftQ.self hg hq)
theorem WCL.label {l : Nat} (hq : Q .normal m h nx hf dl) : WCL nb P ρr n (.label l) m h nx hf dl Q := fun ρ hg => WC.label (liftQ.self hg hq)
theorem WCL.exit {id : Nat} (hq : Q (.exit id) m h nx hf dl) : WCL nb P ρr n (.exit id) m h nx hf dl Q := fun ρ hg => WC.exit (liftQ.self hg hq)
theorem WCL.ret (hq : Q .ret m h nx hf dl) : WCL nb P ρr n .ret m h nx hf dl Q := fun ρ hg => WC.ret (liftQ.self hg hq)
def thnL (K : Fl → Hp → Nat → Hp → List Nat → Prop) (Q : LPo) : LPo
  | .normal, m, h, nx, hf, dl => K m h nx hf dl
  | e, m, h, nx, hf, dl => Q e m h nx hf dl
theorem WCL.seq (hw : WCL nb P ρr n x m h nx hf dl (thnL (fun m h nx hf dl => WCL nb P ρr n y m h nx hf dl Q) Q)) : WCL nb P ρr n (.seq x y) m h nx hf dl Q := fun ρ hg => by
  refine WC.seq ((hw ρ hg).mono ?_)
  rintro e t' h' dl' ⟨ρ', m', h2, nx', hf', a, g, en, q⟩
  cases e with
  | normal =>
    refine WC.ent en ((q ρ' g).mono ?_)
    rintro e t3 h3 dl3 ⟨ρ2, m3, h4, nx3, hf3, a2, g2, en2, q2⟩
    exact ⟨ρ2, m3, h4, nx3, hf3, a.trans a2, g2, en2, q2⟩
  | _ => exact ⟨ρ', m', h2, nx', hf', a, g, en, q⟩
def blkL (id : Nat) (Q : LPo) : LPo
  | .exit id', m, h, nx, hf, dl => if id' = id then Q .normal m h nx hf dl else Q (.exit id') m h nx hf dl
  | e, m, h, nx, hf, dl => Q e m h nx hf dl
theorem WCL.block {id : Nat} (hw : WCL nb P ρr n c m h nx hf dl (blkL id Q)) : WCL nb P ρr n (.block id c) m h nx hf dl Q := fun ρ hg => by
  refine WC.block ((hw ρ hg).mono ?_)
  rintro e t' h' dl' ⟨ρ', m', h2, nx', hf', a, g, en, q⟩
  cases e with
  | exit id' =>
    simp only [blkL] at q
    simp only [blk]
    split at q
    · rename_i he; rw [if_pos he]; exact ⟨ρ', m', h2, nx', hf', a, g, en, q⟩
    · rename_i he; rw [if_neg he]; exact ⟨ρ', m', h2, nx', hf', a, g, en, q⟩
  | _ => exact ⟨ρ', m', h2, nx', hf', a, g, en, q⟩
theorem WCL.cond {cx : Operand} {b : Bool} (hc : evX m cx = some (.bool b)) (h1 : b = true → WCL nb P ρr n x m h nx hf dl Q) (h2 : b = false → WCL nb P ρr n y m h nx hf dl Q) : WCL nb P ρr n (.cond cx x y) m h nx hf dl Q :=
  fun ρ hg => WC.cond (evX_ren hc) (fun e => h1 e ρ hg) (fun e => h2 e ρ hg)
theorem WCL.region {id : Nat} (hw : LO nb P ρr n arr arr.toList m h nx hf (fun m h nx hf => Q .normal m h nx hf dl)) : WCL nb P ρr n (.region id arr false) m h nx hf dl Q := fun ρ hg =>
  WC.regionO ((hw ρ hg).mono fun t h ⟨ρ', m', h2, nx', hf', a, g, en, q⟩ => ⟨ρ', m', h2, nx', hf', a, g, en, q⟩)
def pu (m : Fl) (d : Option Nat) (v : V) : Fl := match d with
  | some d => (d, v) :: m
  | none => m
theorem renT_pu (ρ : Nat → Option Nat) (m : Fl) (d : Option Nat) (v : V) : renT ρ (pu m d v) = updO (renT ρ m) d (renV ρ v) := by
  cases d with
  | none => rfl
  | some d => exact renT_cons ρ m d v
def LS (nb : Nat) (P : Program) (ρr : Option Nat) (n : Nat) (o : Oper) (m : Fl) (h : Hp) (nx : Nat) (hf : Hp) (K2 : V → Hp → Nat → Hp → Prop) : Prop :=
  ∀ ρ, good nb ρ nx h → OpS P ρr n o (renT ρ m) (renH ρ h ++ hf) fun v h' => ∃ ρ' v' h2 nx' hf', agr nb ρ ρ' ∧ good nb ρ' nx' h2 ∧ Ent (updO (renT ρ m) o.dst v) h' (renT ρ' (pu m o.dst v')) (renH ρ' h2 ++ hf') ∧ K2 v' h2 nx' hf'
theorem LO.nil (hk : K m h nx hf) : LO nb P ρr n arr [] m h nx hf K := fun ρ hg => RO.nil ⟨ρ, m, h, nx, hf, agr.refl _ _, hg, Ent.refl _ _, hk⟩
theorem LO.mono {K' : Fl → Hp → Nat → Hp → Prop} (hw : LO nb P ρr n arr os m h nx hf K) (hk : ∀ m h nx hf, K m h nx hf → K' m h nx hf) : LO nb P ρr n arr os m h nx hf K' := fun ρ hg =>
  (hw ρ hg).mono fun t h ⟨ρ', m', h2, nx', hf', a, g, en, q⟩ => ⟨ρ', m', h2, nx', hf', a, g, en, hk _ _ _ _ q⟩
def gdL (arr : Array Oper) (m : Fl) (o : Oper) (y : Bool) : Prop := match o.guard with
  | none => y = true
  | some (j, want) => match (arr[j]?).bind (·.dst) with
    | some d => lk m d = some (.bool (if y = true then want else !want)) ∨ (y = false ∧ ∃ cs, lk m d = some (.tup cs))
    | none => False
theorem gdL_S {y : Bool} {ρ : Nat → Option Nat} (hg : gdL arr m o y) : gdS arr (renT ρ m) o y := by
  unfold gdL at hg
  unfold gdS
  cases ho : o.guard with
  | none => simpa only [ho] using hg
  | some p =>
    obtain ⟨j, want⟩ := p
    simp only [ho] at hg ⊢
    cases ha : (arr[j]?).bind (·.dst) with
    | none => simp only [ha] at hg
    | some d =>
      simp only [ha] at hg ⊢
      rcases hg with hb | ⟨hy, cs, hb⟩
      · left; simp [renT, hb, renV]
      · right; exact ⟨hy, renL ρ cs, by simp [renT, hb, renV]⟩
theorem LO.run (hg : gdL arr m o true) (hd : dstOk n o) (hs : LS nb P ρr n o m h nx hf fun v h nx hf => LO nb P ρr n arr os (pu m o.dst v) h nx hf K) : LO nb P ρr n arr (o :: os) m h nx hf K := fun ρ gd =>
  RO.cons (gdL_S hg) hd (fun _ => (hs ρ gd).mono fun v h' ⟨ρ', v', h2, nx', hf', a, g, en, q⟩ => RO.ent en ((q ρ' g).mono fun t3 h3 ⟨ρ2, m3, h4, nx3, hf3, a2, g2, en2, q2⟩ => ⟨ρ2, m3, h4, nx3, hf3, a.trans a2, g2, en2, q2⟩)) (fun hy => by simp at hy)
theorem LO.pass (hg : gdL arr m o false) (hd : dstOk n o) (hs : LO nb P ρr n arr os (pu m o.dst (.tup [])) h nx hf K) : LO nb P ρr n arr (o :: os) m h nx hf K := fun ρ gd =>
  RO.cons (gdL_S hg) hd (fun hy => by simp at hy) (fun _ => by have := hs ρ gd; rw [renT_pu] at this; simpa [renV, renL] using this)
theorem LS.mono {K2 K3 : V → Hp → Nat → Hp → Prop} (hs : LS nb P ρr n o m h nx hf K2) (hk : ∀ v h nx hf, K2 v h nx hf → K3 v h nx hf) : LS nb P ρr n o m h nx hf K3 := fun ρ hg =>
  (hs ρ hg).mono fun v h' ⟨ρ', v', h2, nx', hf', a, g, en, q⟩ => ⟨ρ', v', h2, nx', hf', a, g, en, hk _ _ _ _ q⟩
theorem LS.real {K2 : V → Hp → Nat → Hp → Prop} (hs : ∀ ρ, good nb ρ nx h → (renH ρ h ++ hf).ns.Nodup → vldT ρ m → OpS P ρr n o (renT ρ m) (renH ρ h ++ hf) fun v h' => ∃ ρ' v' h2 nx' hf', agr nb ρ ρ' ∧ good nb ρ' nx' h2 ∧ Ent (updO (renT ρ m) o.dst v) h' (renT ρ' (pu m o.dst v')) (renH ρ' h2 ++ hf') ∧ K2 v' h2 nx' hf') :
    LS nb P ρr n o m h nx hf K2 := fun ρ hg F w tm D next Q' ho hfr hk => hs ρ hg ho.nodup (vldT_of hfr) F w tm D next Q' ho hfr hk
theorem LS.val {K2 : V → Hp → Nat → Hp → Prop} {v : V} (hv : ∀ ρ, (renH ρ h ++ hf).ns.Nodup → vldT ρ m → evP P (renT ρ m) (renH ρ h ++ hf) o = some (renV ρ v)) (hk : K2 v h nx hf) : LS nb P ρr n o m h nx hf K2 :=
  LS.real fun ρ hg hn ht => OpS.of_evP (hv ρ hn ht) ⟨ρ, v, h, nx, hf, agr.refl _ _, hg, by rw [renT_pu]; exact Ent.refl _ _, hk⟩
theorem LS.pure {K2 : V → Hp → Nat → Hp → Prop} {v : V} (hv : xP P m h o = some v) (hk : K2 v h nx hf) : LS nb P ρr n o m h nx hf K2 := LS.val (fun ρ hn ht => xP_ren ht hv hn) hk
def rex (ρ : Nat → Option Nat) (k b : Nat) : Nat → Option Nat := fun i => if i = k then some b else ρ i
theorem rex_le {ρ : Nat → Option Nat} {k b : Nat} (hk : ρ k = none) : rle ρ (rex ρ k b) := fun i c hi => by
  unfold rex
  rw [if_neg (fun e => by rw [e, hk] at hi; cases hi)]; exact hi
theorem ent_le2 {ρ ρ' : Nat → Option Nat} (hr : rle ρ ρ') {m : Fl} {pre h hf : Hp} {d : Option Nat} {v : V} (hk : keysOk ρ h) : Ent (updO (renT ρ m) d v) (pre ++ (renH ρ h ++ hf)) (updO (renT ρ' m) d v) (pre ++ (renH ρ' h ++ hf)) := by
  intro F w n tm ho hfr
  have hns : (pre ++ (renH ρ' h ++ hf)).ns = (pre ++ (renH ρ h ++ hf)).ns := by rw [Hp.ns_append, Hp.ns_append, Hp.ns_append, Hp.ns_append, renH_ns_le hr hk]
  refine ⟨F, ⟨by rw [hns]; exact ho.nodup, fun b o hm => ?_, by rw [hns]; exact ho.off, ho.frz, ho.gl⟩, ⟨hfr.size, fun i u hv => ?_⟩, ⟨FLe.refl F, Nat.le_refl _, fun _ _ _ => rfl, by rw [hns]; exact fun b hb => .inl hb, fun _ hn => absurd rfl hn, rfl, rfl, rfl, Nat.le_refl _⟩⟩
  · rcases List.mem_append.1 hm with hm | hm
    · exact ho.own b o (List.mem_append_left _ hm)
    · rcases List.mem_append.1 hm with hm | hm
      · obtain ⟨p, hp, e⟩ := List.mem_map.1 hm
        simp only [Prod.mk.injEq] at e
        obtain ⟨rfl, rfl⟩ := e
        obtain ⟨x, hx, r⟩ := ho.own (ky ρ p.1) (renO ρ p.2) (List.mem_append_right _ (List.mem_append_left _ (List.mem_map.2 ⟨p, hp, rfl⟩)))
        exact ⟨x, by rw [ky_le hr (hk p hp)]; exact hx, renO_le hr r⟩
      · exact ho.own b o (List.mem_append_right _ (List.mem_append_right _ hm))
  · have key : ∀ (i : Nat) u, renT ρ' m i = some u → (∃ u0, renT ρ m i = some u0 ∧ ∀ x, VR F u0 x → VR F u x) := fun i u hu => by
      unfold renT at hu
      simp only [Option.map_eq_some_iff] at hu
      obtain ⟨z, hz, rfl⟩ := hu
      exact ⟨renV ρ z, by simp [renT, hz], fun x hx => renV_le hr z hx⟩
    cases d with
    | none =>
      obtain ⟨u0, h0, h1⟩ := key i u hv
      obtain ⟨x, hx, r⟩ := hfr.at_ i u0 h0
      exact ⟨x, hx, h1 x r⟩
    | some d =>
      simp only [updO, upd] at hv
      by_cases hi : i = d
      · rw [if_pos hi] at hv
        exact hfr.at_ i u (by simp only [updO, upd]; rw [if_pos hi]; exact hv)
      · rw [if_neg hi] at hv
        obtain ⟨u0, h0, h1⟩ := key i u hv
        obtain ⟨x, hx, r⟩ := hfr.at_ i u0 (by simp only [updO, upd]; rw [if_neg hi]; exact h0)
        exact ⟨x, hx, h1 x r⟩
theorem good.push {ρ : Nat → Option Nat} (hg : good nb ρ nx h) (b : Nat) (o : AObj) : good nb (rex ρ nx b) (nx + 1) ((nx, o) :: h) where
  fresh := fun k hk => by unfold rex; rw [if_neg (by omega)]; exact hg.fresh k (by omega)
  keys := fun p hp => by
    rcases List.mem_cons.1 hp with rfl | hp
    · simp [rex]
    · have := hg.keys p hp
      unfold rex
      split
      · rfl
      · exact this
  base := by have := hg.base; omega
theorem agr_rex {ρ : Nat → Option Nat} (hb : nb ≤ nx) (b : Nat) : agr nb ρ (rex ρ nx b) := fun k hk => by unfold rex; rw [if_neg (by omega)]
theorem LS.new {K2 : V → Hp → Nat → Hp → Prop} {mk : Nat → V} {mkl : V} {obl : AObj} (hmk : ∀ ρ b, renV (rex ρ nx b) mkl = mk b)
    (hs : ∀ (ρ : Nat → Option Nat) (K : V → Hp → Prop), (renH ρ h ++ hf).ns.Nodup → vldT ρ m → (∀ b, b ∉ (renH ρ h ++ hf).ns → K (mk b) ((b, renO ρ obl) :: (renH ρ h ++ hf))) → OpS P ρr n o (renT ρ m) (renH ρ h ++ hf) K) (hk : K2 mkl ((nx, obl) :: h) (nx + 1) hf) : LS nb P ρr n o m h nx hf K2 :=
  LS.real fun ρ hg hn ht => hs ρ _ hn ht fun b hb => by
    have hr := rex_le (b := b) (hg.fresh nx (Nat.le_refl _))
    refine ⟨rex ρ nx b, mkl, (nx, obl) :: h, nx + 1, hf, agr_rex hg.base b, hg.push b obl, ?_, hk⟩
    rw [renT_pu, hmk]
    have e0 : ky (rex ρ nx b) nx = b := by simp [ky, rex]
    rw [renH_cons, List.cons_append]
    simp only [e0]
    refine Ent.trans (ent_le2 (pre := [(b, renO ρ obl)]) hr hg.keys) ?_
    intro F w n tm ho hfr
    refine ⟨F, ⟨ho.nodup, fun b' o' hm => ?_, ho.off, ho.frz, ho.gl⟩, hfr, ⟨FLe.refl F, Nat.le_refl _, fun _ _ _ => rfl, fun b hb => .inl hb, fun _ hn => absurd rfl hn, rfl, rfl, rfl, Nat.le_refl _⟩⟩
    rcases List.mem_cons.1 hm with e | hm
    · simp only [Prod.mk.injEq] at e
      obtain ⟨rfl, rfl⟩ := e
      obtain ⟨x, hx, r⟩ := ho.own b' (renO ρ obl) (by simp)
      exact ⟨x, hx, renO_le hr r⟩
    · exact ho.own b' o' (by simp only [List.singleton_append]; exact List.mem_cons_of_mem _ hm)
end Go.Fw
