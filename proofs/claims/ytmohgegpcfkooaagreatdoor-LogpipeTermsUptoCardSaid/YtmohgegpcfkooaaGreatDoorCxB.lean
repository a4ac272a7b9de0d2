/- A part of the proof: CxB -/
import Derived.Test.YtmohgegpcfkooaaGreatDoorCxA
set_option linter.all false
set_option linter.unusedSectionVars false
set_option linter.unusedVariables false
set_option linter.unusedSimpArgs false
namespace Go.Fw
variable [Gl] [Yl]
def rV (ρ : Nat → Option Nat) (ν : Nat → Nat) (v : V) : V := renV ρ (fixV ν v)
def rT (ρ : Nat → Option Nat) (ν : Nat → Nat) (m : Fl) : Fr := renT ρ (fixM ν m)
def rH (ρ : Nat → Option Nat) (ν : Nat → Nat) (h : Hp) : Hp := renH ρ (fixH ν h)
omit [Yl] in
def agn (nb : Nat) (ν ν' : Nat → Nat) : Prop := ∀ k, k < nb ∨ k = BIG → ν' k = ν k
theorem agn.refl (nb : Nat) (ν : Nat → Nat) : agn nb ν ν := fun _ _ => rfl
theorem agn.trans {nb : Nat} {ν ν' ν'' : Nat → Nat} (h : agn nb ν ν') (h' : agn nb ν' ν'') : agn nb ν ν'' := fun k hk => (h' k hk).trans (h k hk)
theorem agn.le {nb nx : Nat} {ν ν' : Nat → Nat} (h : agn nx ν ν') (hl : nb ≤ nx) : agn nb ν ν' := fun k hk => h k (hk.imp (fun h => Nat.lt_of_lt_of_le h hl) id)
variable {P : Program} {ρr : Option Nat} {n nb : Nat} {c x y : Code} {m : Fl} {h hf : Hp} {nx : Nat} {dl : List Nat} {Q : LPo} {arr : Array Oper} {o : Oper} {os : List Oper}
theorem good_fix {ρ : Nat → Option Nat} (ν : Nat → Nat) : good nb ρ nx (fixH ν h) ↔ good nb ρ nx h := by
  constructor
  · intro g
    refine ⟨g.fresh, fun p hp => ?_, g.base⟩
    exact g.keys (p.1, fixO ν p.1 p.2) (List.mem_map.2 ⟨p, hp, rfl⟩)
  · intro g
    refine ⟨g.fresh, fun p hp => ?_, g.base⟩
    obtain ⟨q, hq, rfl⟩ := List.mem_map.1 hp
    exact g.keys q hq
theorem rT_eq {ρ : Nat → Option Nat} {ν : Nat → Nat} {m m' : Fl} (he : ∀ i, lk m i = lk m' i) : rT ρ ν m = rT ρ ν m' := by
  funext i
  simp only [rT, renT, lk_fix, he]
theorem rT_get {ρ : Nat → Option Nat} {ν : Nat → Nat} {m : Fl} (i : Nat) : rT ρ ν m i = (lk m i).map (rV ρ ν) := by
  simp only [rT, renT, lk_fix, Option.map_map]; rfl
theorem rT_pu {ρ : Nat → Option Nat} {ν : Nat → Nat} {m : Fl} {d : Option Nat} {v : V} : updO (rT ρ ν m) d (rV ρ ν v) = rT ρ ν (pu m d v) := by
  cases d with
  | none => rfl
  | some d => exact (renT_cons ρ (fixM ν m) d (fixV ν v)).symm
theorem rH_cons {ρ : Nat → Option Nat} {ν : Nat → Nat} (p : Nat × AObj) (r : Hp) : rH ρ ν (p :: r) = (ky ρ p.1, renO ρ (fixO ν p.1 p.2)) :: rH ρ ν r := rfl
omit [Yl] in
mutual
def ltV (nx : Nat) : V → Bool
  | .ptr b _ | .slice b _ _ _ | .map b => Nat.blt b nx
  | .clo _ l | .agg l | .tup l => ltL nx l
  | .iface _ v => ltV nx v
  | _ => true
def ltL (nx : Nat) : List V → Bool
  | [] => true
  | v :: r => match ltV nx v with
    | true => ltL nx r
    | false => false
end
section lab
variable {ρ ρ' : Nat → Option Nat} {ν ν' : Nat → Nat} {nx : Nat}
mutual
theorem rV_eq (a : agr nx ρ ρ') (b : agn nx ν ν') : ∀ (v : V), ltV nx v = true → renV ρ' (fixV ν' v) = renV ρ (fixV ν v)
  | .ptr k o, h => by simp only [ltV] at h; simp only [fixV, renV, a k (blt_lt h)]
  | .slice k o l c, h => by
    simp only [ltV] at h
    have e : cf ν' k c = cf ν k c := by unfold cf; rw [b k (.inl (blt_lt h))]
    simp only [fixV, renV, a k (blt_lt h), e]
  | .map k, h => by simp only [ltV] at h; simp only [fixV, renV, a k (blt_lt h)]
  | .clo f l, h => by
    simp only [ltV] at h
    cases hy : isY l with
    | true => simp only [fixV, hy, cond_true]; rfl
    | false => rw [fixV_clo _ hy, fixV_clo _ hy]; simp only [renV, rL_eq a b l h]
  | .agg l, h => by simp only [ltV] at h; simp only [fixV, renV, rL_eq a b l h]
  | .tup l, h => by simp only [ltV] at h; simp only [fixV, renV, rL_eq a b l h]
  | .iface t v, h => by simp only [ltV] at h; simp only [fixV, renV, rV_eq a b v h]
  | .int _ _, h | .bool _, h | .str _, h | .flt _ _, h | .nilptr, h | .fptr _ _, h | .nilslice, h | .fslice _ _, h | .eslice, h | .nilmap, h | .nilfunc, h | .yield _, h | .niliface, h => rfl
theorem rL_eq (a : agr nx ρ ρ') (b : agn nx ν ν') : ∀ (l : List V), ltL nx l = true → renL ρ' (fixL ν' l) = renL ρ (fixL ν l)
  | [], h => rfl
  | v :: r, h => by
    simp only [ltL] at h
    split at h
    · rename_i h1; simp only [fixL, renL, rV_eq a b v h1, rL_eq a b r h]
    · simp at h
end
omit [Yl] in
def ltE (nx : Nat) : List (V × V) → Bool
  | [] => true
  | e :: r => ltV nx e.1 && ltV nx e.2 && ltE nx r
theorem rE_eq (a : agr nx ρ ρ') (b : agn nx ν ν') : ∀ (l : List (V × V)), ltE nx l = true → (l.map fun e => (fixV ν' e.1, fixV ν' e.2)).map (fun e => (renV ρ' e.1, renV ρ' e.2)) = (l.map fun e => (fixV ν e.1, fixV ν e.2)).map fun e => (renV ρ e.1, renV ρ e.2)
  | [], h => rfl
  | e :: r, h => by
    simp only [ltE, Bool.and_eq_true] at h
    have := rE_eq a b r h.2
    simp only [List.map_cons] at this ⊢
    rw [this, rV_eq a b _ h.1.1, rV_eq a b _ h.1.2]
omit [Yl] in
def ltO (nx : Nat) : AObj → Bool
  | .cells _ cs _ => ltL nx cs
  | .map es => ltE nx es
  | _ => true
theorem rO_eq (a : agr nx ρ ρ') (b : agn nx ν ν') {k : Nat} (hk : k < nx) {o : AObj} (h : ltO nx o = true) : renO ρ' (fixO ν' k o) = renO ρ (fixO ν k o) := by
  cases o with
  | cells T cs n =>
    simp only [ltO] at h
    have e : nf ν' k n = nf ν k n := by unfold nf; rw [b k (.inl hk)]
    simp only [fixO, renO, rL_eq a b cs h, e]
  | map es => simp only [ltO] at h; have := rE_eq a b es h; simp only [fixO, renO, this]
  | _ => rfl
omit [Yl] in
def ltH (nx : Nat) : Hp → Bool
  | [] => true
  | p :: r => match Nat.blt p.1 nx && ltO nx p.2 with
    | true => ltH nx r
    | false => false
theorem rH_eq (a : agr nx ρ ρ') (b : agn nx ν ν') : ∀ {h : Hp}, ltH nx h = true → rH ρ' ν' h = rH ρ ν h
  | [], _ => rfl
  | p :: r, h => by
    simp only [ltH] at h
    split at h
    · rename_i hc
      simp only [Bool.and_eq_true] at hc
      rw [rH_cons, rH_cons, rH_eq a b h, rO_eq a b (blt_lt hc.1) hc.2]
      simp only [ky, a _ (blt_lt hc.1)]
    · simp at h
omit [Yl] in
def ltM (nx : Nat) : Fl → Bool
  | [] => true
  | p :: r => match ltV nx p.2 with
    | true => ltM nx r
    | false => false
theorem ltM_lk : ∀ {m : Fl} {i : Nat} {v : V}, ltM nx m = true → lk m i = some v → ltV nx v = true
  | [], i, v, _, h => by simp [lk] at h
  | (j, u) :: r, i, v, hm, h => by
    simp only [ltM] at hm
    split at hm
    · rename_i hu
      simp only [lk] at h
      cases hb : Nat.beq i j with
      | true => rw [hb] at h; simp only [cond_true, Option.some.injEq] at h; subst h; exact hu
      | false => rw [hb] at h; exact ltM_lk hm h
    · simp at hm
theorem rT_eq2 (a : agr nx ρ ρ') (b : agn nx ν ν') {m : Fl} (h : ltM nx m = true) : rT ρ' ν' m = rT ρ ν m := by
  funext i
  rw [rT_get, rT_get]
  cases hl : lk m i with
  | none => rfl
  | some v => simp only [Option.map_some, rV, rV_eq a b v (ltM_lk h hl)]
omit [Yl] in
def ltC (nx : Nat) : Hp → Bool
  | [] => true
  | p :: r => match ltO nx p.2 with
    | true => ltC nx r
    | false => false
theorem rH_eq2 (a : agr nx ρ ρ') (b : agn nx ν ν') (hf : ∀ k, nx ≤ k → ρ k = none) : ∀ {h : Hp}, keysOk ρ h → ltC nx h = true → rH ρ' ν' h = rH ρ ν h
  | [], _, _ => rfl
  | p :: r, hk, h => by
    simp only [ltC] at h
    split at h
    · rename_i hc
      have hlt : p.1 < nx := Nat.lt_of_not_le fun h => by
        have := hk p (by simp)
        rw [hf _ h] at this; cases this
      rw [rH_cons, rH_cons, rH_eq2 a b hf (fun q hq => hk q (List.mem_cons_of_mem _ hq)) h, rO_eq a b hlt hc]
      simp only [ky, a _ hlt]
    · simp at h
omit [Yl] in
theorem ltC_right {nx : Nat} : ∀ {a b : Hp}, ltC nx (a ++ b) = true → ltC nx b = true
  | [], b, h => h
  | p :: r, b, h => by
    simp only [List.cons_append, ltC] at h
    split at h
    · exact ltC_right h
    · simp at h
end lab
def liftE (nb : Nat) (ρ : Nat → Option Nat) (ν : Nat → Nat) (Q : LPo) : Po := fun e t' h' dl' => ∃ ρ' ν' m' h2 nx' hf', agr nb ρ ρ' ∧ agn nb ν ν' ∧ good nb ρ' nx' h2 ∧ Ent t' h' (rT ρ' ν' m') (rH ρ' ν' h2 ++ hf') ∧ Q e m' h2 nx' hf' dl'
abbrev PK3 := Fl → Hp → Nat → Hp → Prop
def liftF (nb : Nat) (ρ : Nat → Option Nat) (ν : Nat → Nat) (K : PK3) : Fr → Hp → Prop := fun t' h' => ∃ ρ' ν' m' h2 nx' hf', agr nb ρ ρ' ∧ agn nb ν ν' ∧ good nb ρ' nx' h2 ∧ Ent t' h' (rT ρ' ν' m') (rH ρ' ν' h2 ++ hf') ∧ K m' h2 nx' hf'
def WE (nb : Nat) (P : Program) (ρr : Option Nat) (n : Nat) (c : Code) (m : Fl) (h : Hp) (nx : Nat) (hf : Hp) (dl : List Nat) (Q : LPo) : Prop :=
  ∀ ρ ν, good nb ρ nx h → WC P ρr n c (rT ρ ν m) (rH ρ ν h ++ hf) dl (liftE nb ρ ν Q)
def OE (nb : Nat) (P : Program) (ρr : Option Nat) (n : Nat) (arr : Array Oper) (os : List Oper) (m : Fl) (h : Hp) (nx : Nat) (hf : Hp) (K : PK3) : Prop :=
  ∀ ρ ν, good nb ρ nx h → RO P ρr n arr os (rT ρ ν m) (rH ρ ν h ++ hf) (liftF nb ρ ν K)
def LE (nb : Nat) (P : Program) (ρr : Option Nat) (n : Nat) (o : Oper) (m : Fl) (h : Hp) (nx : Nat) (hf : Hp) (K : V → Hp → Nat → Hp → Prop) : Prop :=
  ∀ ρ ν, good nb ρ nx h → OpS P ρr n o (rT ρ ν m) (rH ρ ν h ++ hf) fun v h' => ∃ ρ' ν' v' h2 nx' hf', agr nb ρ ρ' ∧ agn nb ν ν' ∧ good nb ρ' nx' h2 ∧ Ent (updO (rT ρ ν m) o.dst v) h' (rT ρ' ν' (pu m o.dst v')) (rH ρ' ν' h2 ++ hf') ∧ (v = rV ρ' ν' v' ∧ agr nx ρ ρ' ∧ agn nx ν ν' ∧ (ltC nx h2 = true → h' = rH ρ' ν' h2 ++ hf')) ∧ K v' h2 nx' hf'
theorem liftE.self {ρ : Nat → Option Nat} {ν : Nat → Nat} {e : Exit} (hg : good nb ρ nx h) (hq : Q e m h nx hf dl) : liftE nb ρ ν Q e (rT ρ ν m) (rH ρ ν h ++ hf) dl := ⟨ρ, ν, m, h, nx, hf, agr.refl _ _, agn.refl _ _, hg, Ent.refl _ _, hq⟩
theorem WE.skip (hq : Q .normal m h nx hf dl) : WE nb P ρr n .skip m h nx hf dl Q := fun ρ ν hg => WC.skip (liftE.self hg hq)
theorem WE.label {l : Nat} (hq : Q .normal m h nx hf dl) : WE nb P ρr n (.label l) m h nx hf dl Q := fun ρ ν hg => WC.label (liftE.self hg hq)
theorem WE.exit {id : Nat} (hq : Q (.exit id) m h nx hf dl) : WE nb P ρr n (.exit id) m h nx hf dl Q := fun ρ ν hg => WC.exit (liftE.self hg hq)
theorem WE.ret (hq : Q .ret m h nx hf dl) : WE nb P ρr n .ret m h nx hf dl Q := fun ρ ν hg => WC.ret (liftE.self hg hq)
theorem WE.seq (hw : WE nb P ρr n x m h nx hf dl (thnL (fun m h nx hf dl => WE nb P ρr n y m h nx hf dl Q) Q)) : WE nb P ρr n (.seq x y) m h nx hf dl Q := fun ρ ν hg => by
  refine WC.seq ((hw ρ ν hg).mono ?_)
  rintro e t' h' dl' ⟨ρ', ν', m', h2, nx', hf', a, b, g, en, q⟩
  cases e with
  | normal =>
    refine WC.ent en ((q ρ' ν' g).mono ?_)
    rintro e t3 h3 dl3 ⟨ρ2, ν2, m3, h4, nx3, hf3, a2, b2, g2, en2, q2⟩
    exact ⟨ρ2, ν2, m3, h4, nx3, hf3, a.trans a2, b.trans b2, g2, en2, q2⟩
  | _ => exact ⟨ρ', ν', m', h2, nx', hf', a, b, g, en, q⟩
theorem WE.block {id : Nat} (hw : WE nb P ρr n c m h nx hf dl (blkL id Q)) : WE nb P ρr n (.block id c) m h nx hf dl Q := fun ρ ν hg => by
  refine WC.block ((hw ρ ν hg).mono ?_)
  rintro e t' h' dl' ⟨ρ', ν', m', h2, nx', hf', a, b, g, en, q⟩
  cases e with
  | exit id' =>
    simp only [blkL] at q
    simp only [blk]
    split at q
    · rename_i he; rw [if_pos he]; exact ⟨ρ', ν', m', h2, nx', hf', a, b, g, en, q⟩
    · rename_i he; rw [if_neg he]; exact ⟨ρ', ν', m', h2, nx', hf', a, b, g, en, q⟩
  | _ => exact ⟨ρ', ν', m', h2, nx', hf', a, b, g, en, q⟩
theorem evX_rT {ρ : Nat → Option Nat} {ν : Nat → Nat} {cx : Operand} {v : V} (hc : evX m cx = some v) : evO (rT ρ ν m) cx = some (rV ρ ν v) := evX_ren (evX_fix hc)
theorem WE.cond {cx : Operand} {b : Bool} (hc : evX m cx = some (.bool b)) (h1 : b = true → WE nb P ρr n x m h nx hf dl Q) (h2 : b = false → WE nb P ρr n y m h nx hf dl Q) : WE nb P ρr n (.cond cx x y) m h nx hf dl Q :=
  fun ρ ν hg => WC.cond (evX_rT hc) (fun e => h1 e ρ ν hg) (fun e => h2 e ρ ν hg)
theorem WE.loopN (I : Nat → Fl → Hp → Nat → Hp → List Nat → Prop)
    (round : ∀ j m h nx hf dl, I j m h nx hf dl → WE nb P ρr n c m h nx hf dl (thnL (fun m' h' nx' hf' dl' => ∃ j', j' < j ∧ I j' m' h' nx' hf' dl') Q)) {j : Nat} (hI : I j m h nx hf dl) : WE nb P ρr n (.loop c) m h nx hf dl Q := fun ρ ν hg => by
  refine WC.loopE (fun j t h' dl' => ∃ ρ' ν' m' h2 nx' hf', agr nb ρ ρ' ∧ agn nb ν ν' ∧ good nb ρ' nx' h2 ∧ t = rT ρ' ν' m' ∧ h' = rH ρ' ν' h2 ++ hf' ∧ I j m' h2 nx' hf' dl') ?_ (Ent.refl _ _) ⟨ρ, ν, m, h, nx, hf, agr.refl _ _, agn.refl _ _, hg, rfl, rfl, hI⟩
  rintro j t h' dl' ⟨ρ', ν', m', h2, nx', hf', a, b, g, rfl, rfl, hI'⟩
  refine (round j m' h2 nx' hf' dl' hI' ρ' ν' g).mono ?_
  rintro e t3 h3 dl3 ⟨ρ2, ν2, m3, h4, nx3, hf3, a2, b2, g2, en2, q2⟩
  cases e with
  | normal =>
    obtain ⟨j', hlt, q⟩ := q2
    exact ⟨j', _, _, hlt, en2, ρ2, ν2, m3, h4, nx3, hf3, a.trans a2, b.trans b2, g2, rfl, rfl, q⟩
  | _ => exact ⟨ρ2, ν2, m3, h4, nx3, hf3, a.trans a2, b.trans b2, g2, en2, q2⟩
theorem WE.region {id : Nat} (hw : OE nb P ρr n arr arr.toList m h nx hf (fun m h nx hf => Q .normal m h nx hf dl)) : WE nb P ρr n (.region id arr false) m h nx hf dl Q := fun ρ ν hg =>
  WC.regionO ((hw ρ ν hg).mono fun t h ⟨ρ', ν', m', h2, nx', hf', a, b, g, en, q⟩ => ⟨ρ', ν', m', h2, nx', hf', a, b, g, en, q⟩)
theorem OE.nil {K : PK3} (hk : K m h nx hf) : OE nb P ρr n arr [] m h nx hf K := fun ρ ν hg => RO.nil ⟨ρ, ν, m, h, nx, hf, agr.refl _ _, agn.refl _ _, hg, Ent.refl _ _, hk⟩
theorem OE.mono {K K' : PK3} (hw : OE nb P ρr n arr os m h nx hf K) (hk : ∀ m h nx hf, K m h nx hf → K' m h nx hf) : OE nb P ρr n arr os m h nx hf K' := fun ρ ν hg =>
  (hw ρ ν hg).mono fun t h ⟨ρ', ν', m', h2, nx', hf', a, b, g, en, q⟩ => ⟨ρ', ν', m', h2, nx', hf', a, b, g, en, hk _ _ _ _ q⟩
theorem OE.congr {K : PK3} {m' : Fl} (he : ∀ i, lk m i = lk m' i) (hw : OE nb P ρr n arr os m' h nx hf K) : OE nb P ρr n arr os m h nx hf K := fun ρ ν hg => by
  rw [rT_eq he]; exact hw ρ ν hg
theorem gdL_fix {ν : Nat → Nat} {yy : Bool} (hg : gdL arr m o yy) : gdL arr (fixM ν m) o yy := by
  unfold gdL at hg ⊢
  cases ho : o.guard with
  | none => simpa only [ho] using hg
  | some p =>
    obtain ⟨j, want⟩ := p
    simp only [ho] at hg ⊢
    cases ha : (arr[j]?).bind (·.dst) with
    | none => simp only [ha] at hg
    | some d =>
      simp only [ha] at hg ⊢
      rcases hg with hb | ⟨hy, cs, hb⟩
      · left; rw [lk_fix, hb]; rfl
      · right; exact ⟨hy, fixL ν cs, by rw [lk_fix, hb]; rfl⟩
theorem OE.run {K : PK3} (hg : gdL arr m o true) (hd : dstOk n o) (hs : LE nb P ρr n o m h nx hf fun v h nx hf => OE nb P ρr n arr os (pu m o.dst v) h nx hf K) : OE nb P ρr n arr (o :: os) m h nx hf K := fun ρ ν gd =>
  RO.cons (gdL_S (gdL_fix hg)) hd (fun _ => (hs ρ ν gd).mono fun v h' ⟨ρ', ν', v', h2, nx', hf', a, b, g, en, _, q⟩ => RO.ent en ((q ρ' ν' g).mono fun t3 h3 ⟨ρ2, ν2, m3, h4, nx3, hf3, a2, b2, g2, en2, q2⟩ => ⟨ρ2, ν2, m3, h4, nx3, hf3, a.trans a2, b.trans b2, g2, en2, q2⟩)) (fun hy => by simp at hy)
theorem OE.pass {K : PK3} (hg : gdL arr m o false) (hd : dstOk n o) (hs : OE nb P ρr n arr os (pu m o.dst (.tup [])) h nx hf K) : OE nb P ρr n arr (o :: os) m h nx hf K := fun ρ ν gd =>
  RO.cons (gdL_S (gdL_fix hg)) hd (fun hy => by simp at hy) (fun _ => by
    have := hs ρ ν gd
    rw [← rT_pu] at this
    simpa [rV, fixV, fixL, renV, renL] using this)
theorem LE.real {K : V → Hp → Nat → Hp → Prop} (hs : ∀ ρ ν, good nb ρ nx h → (rH ρ ν h ++ hf).ns.Nodup → vldT ρ (fixM ν m) → OpS P ρr n o (rT ρ ν m) (rH ρ ν h ++ hf) fun v h' => ∃ ρ' ν' v' h2 nx' hf', agr nb ρ ρ' ∧ agn nb ν ν' ∧ good nb ρ' nx' h2 ∧ Ent (updO (rT ρ ν m) o.dst v) h' (rT ρ' ν' (pu m o.dst v')) (rH ρ' ν' h2 ++ hf') ∧ (v = rV ρ' ν' v' ∧ agr nx ρ ρ' ∧ agn nx ν ν' ∧ (ltC nx h2 = true → h' = rH ρ' ν' h2 ++ hf')) ∧ K v' h2 nx' hf') :
    LE nb P ρr n o m h nx hf K := fun ρ ν hg F w tm D next Q' ho hfr hk => hs ρ ν hg ho.nodup (vldT_of hfr) F w tm D next Q' ho hfr hk
theorem LE.val {K : V → Hp → Nat → Hp → Prop} {v : V} (hv : ∀ ρ ν, (rH ρ ν h ++ hf).ns.Nodup → vldT ρ (fixM ν m) → evP P (rT ρ ν m) (rH ρ ν h ++ hf) o = some (rV ρ ν v)) (hk : K v h nx hf) : LE nb P ρr n o m h nx hf K :=
  LE.real fun ρ ν hg hn ht => OpS.of_evP (hv ρ ν hn ht) ⟨ρ, ν, v, h, nx, hf, agr.refl _ _, agn.refl _ _, hg, by rw [rT_pu]; exact Ent.refl _ _, ⟨rfl, agr.refl _ _, agn.refl _ _, fun _ => rfl⟩, hk⟩
def DE (nb : Nat) (P : Program) (ρr : Option Nat) (n : Nat) (arr : Array Oper) (fu : Nat) (L : List Nat) (m : Fl) (h : Hp) (nx : Nat) (hf : Hp) (K : PK3) : Prop :=
  ∀ ρ ν, good nb ρ nx h → (rH ρ ν h ++ hf).ns.Nodup → vldT ρ (fixM ν m) → wA P ρr n arr fu L (rT ρ ν m) (rH ρ ν h ++ hf) (liftF nb ρ ν K)
variable {fu : Nat} {L : List Nat} {K : PK3}
theorem WE.region_draw {id : Nat} (hm : P.follows .mixedOrders = true) (hs : DE nb P ρr n arr arr.size [] m h nx hf fun m h nx hf => Q .normal m h nx hf dl) : WE nb P ρr n (.region id arr true) m h nx hf dl Q := by
  intro ρ ν hg F w tm ho hfr
  refine WC.region_draw hm ?_ F w tm ho hfr
  refine wA_mono ?_ _ _ _ _ (hs ρ ν hg ho.nodup (vldT_of hfr))
  rintro t' h' ⟨ρ', ν', m', h2, nx', hf', a, b, g, en, q⟩
  exact ⟨ρ', ν', m', h2, nx', hf', a, b, g, en, q⟩
theorem DE.congr {m' : Fl} (he : ∀ i, lk m i = lk m' i) (hw : DE nb P ρr n arr fu L m' h nx hf K) : DE nb P ρr n arr fu L m h nx hf K := fun ρ ν hg hn ht => by
  rw [rT_eq he]
  refine hw ρ ν hg hn fun i v hv => ht i v ?_
  rw [lk_fix] at hv ⊢
  rw [he]; exact hv
theorem DE.done (hr : rdy arr L = []) (hk : K m h nx hf) : DE nb P ρr n arr fu L m h nx hf K := fun ρ ν hg hn ht => by
  have hq : liftF nb ρ ν K (rT ρ ν m) (rH ρ ν h ++ hf) := ⟨ρ, ν, m, h, nx, hf, agr.refl _ _, agn.refl _ _, hg, Ent.refl _ _, hk⟩
  cases fu with
  | zero => exact ⟨hr, hq⟩
  | succ f =>
    rw [wA]
    exact .inr ⟨fun _ => hq, fun i hi => by rw [hr] at hi; simp at hi⟩
theorem vldT.pu {ρ : Nat → Option Nat} {ν : Nat → Nat} {d : Nat} {v : V} (ht : vldT ρ (fixM ν m)) (hv : vld ρ (fixV ν v)) : vldT ρ (fixM ν ((d, v) :: m)) := fun i u hu => by
  simp only [fixM_cons, lk] at hu
  cases hb : Nat.beq i d with
  | true => rw [hb] at hu; simp only [cond_true, Option.some.injEq] at hu; subst hu; exact hv
  | false => rw [hb] at hu; exact ht i u hu
theorem vldB_vld {ρ : Nat → Option Nat} {ν : Nat → Nat} {v : V} (hg : good nb ρ nx h) (hv : vldB h v = true) : vld ρ (fixV ν v) := by
  have key : ∀ b, (hget h b).isSome = true → ∃ c, ρ b = some c := fun b hb => by
    obtain ⟨o, ho⟩ := Option.isSome_iff_exists.1 hb
    exact Option.isSome_iff_exists.1 (hg.keys _ (hget_mem ho))
  cases v <;> first | trivial | exact key _ hv | (rename_i f cs; cases hb : isY cs <;> simp only [fixV, hb, cond_true, cond_false] <;> trivial)
theorem DE.any {i d : Nat} {v : V} (ho : arr[i]? = some o) (hg : gdL arr m o true) (hc : chk arr L i (descs arr i) anyO = true) (hv : ∀ ρ ν (h' : Hp), vldT ρ (fixM ν m) → (rH ρ ν h ++ hf).ns.Nodup → evP P (rT ρ ν m) h' o = some (rV ρ ν v)) (hvl : vldB h v = true) (hd : o.dst = some d) (hlt : d < n)
    (hs : DE nb P ρr n arr fu (i :: L) ((d, v) :: m) h nx hf K) : DE nb P ρr n arr (fu + 1) L m h nx hf K := by
  intro ρ ν hgd hn ht
  have hw := hs ρ ν hgd hn (ht.pu (vldB_vld hgd hvl))
  have e1 : rT ρ ν ((d, v) :: m) = updO (rT ρ ν m) (some d) (rV ρ ν v) := (rT_pu (d := some d)).symm
  rw [e1] at hw
  exact wA.pureS (S := fun _ => True) (Sb := anyO) (fun oj t h K _ _ hw => anyS oj t h K hw) ho hd hlt (gdL_S (gdL_fix hg)) (fun h' _ => hv ρ ν h' ht hn) trivial hc hw
theorem DE.calm {i d : Nat} {v : V} (ho : arr[i]? = some o) (hg : gdL arr m o true) (hc : chk arr L i (descs arr i) calm = true) (hv : ∀ ρ ν, vldT ρ (fixM ν m) → (rH ρ ν h ++ hf).ns.Nodup → evP P (rT ρ ν m) (rH ρ ν h ++ hf) o = some (rV ρ ν v)) (hcv : isConv o = false) (hvl : vldB h v = true) (hd : o.dst = some d) (hlt : d < n)
    (hs : DE nb P ρr n arr fu (i :: L) ((d, v) :: m) h nx hf K) : DE nb P ρr n arr (fu + 1) L m h nx hf K := by
  intro ρ ν hgd hn ht
  have hw := hs ρ ν hgd hn (ht.pu (vldB_vld hgd hvl))
  have e1 : rT ρ ν ((d, v) :: m) = updO (rT ρ ν m) (some d) (rV ρ ν v) := (rT_pu (d := some d)).symm
  rw [e1] at hw
  have hv1 := hv ρ ν ht hn
  exact wA.pureS (S := fun h' => hle (rH ρ ν h ++ hf) h') (Sb := Fw.calm) (fun oj t h K hsb hs hw => wStep_calm hsb hs hw) ho hd hlt (gdL_S (gdL_fix hg)) (fun h' hh => evP_mono hv1 hh hcv) (hle.refl _) hc hw
theorem DE.skip {i d : Nat} (ho : arr[i]? = some o) (hg : gdL arr m o false) (hc : chk arr L i (descs arr i) anyO = true) (hd : o.dst = some d) (hlt : d < n)
    (hs : DE nb P ρr n arr fu (i :: L) ((d, .tup []) :: m) h nx hf K) : DE nb P ρr n arr (fu + 1) L m h nx hf K := by
  intro ρ ν hgd hn ht
  have hw := hs ρ ν hgd hn (ht.pu (by trivial))
  have e1 : rT ρ ν ((d, .tup []) :: m) = updO (rT ρ ν m) (some d) (rV ρ ν (.tup [])) := (rT_pu (d := some d)).symm
  rw [e1] at hw
  exact wA.no ho hd hlt (gdL_S (gdL_fix hg)) hc hw
theorem DE.callP {i d : Nat} {f : FuncId} {r : V} {cc : Call} {fo : Operand} {caps bs : List V} (ho : arr[i]? = some o) (hg : gdL arr m o true) (hc : chk arr L i (descs arr i) anyO = true) (hop : o.op = .call cc) (hcal : cc.callee = .value fo) (hfo : evX m fo = some (.clo f caps)) (hb : evXs m cc.args.toList = some bs)
    (hgo : isGo P f = true) (hyc : isY caps = false) (hdr : (bs ++ caps).all dry = true) (hp : PTri P f (bs ++ caps) r) (hrd : dry r = true) (hd : o.dst = some d) (hlt : d < n)
    (hs : DE nb P ρr n arr fu (i :: L) ((d, r) :: m) h nx hf K) : DE nb P ρr n arr (fu + 1) L m h nx hf K := by
  intro ρ ν hgd hn ht
  have hw := hs ρ ν hgd hn (ht.pu (by rw [dry_fix ν hrd]; exact vld_dry hrd))
  have e1 : rT ρ ν ((d, r) :: m) = updO (rT ρ ν m) (some d) (rV ρ ν r) := (rT_pu (d := some d)).symm
  have e2 : rV ρ ν r = r := by rw [rV, dry_fix ν hrd, dry_ren ρ hrd]
  rw [e1, e2] at hw
  have h1 := evX_rT (ρ := ρ) (ν := ν) hfo
  simp only [rV, fixV_clo ν hyc, renV] at h1
  refine wA.callP ho hd hlt (gdL_S (gdL_fix hg)) hop hcal h1 (evXs_ren (evXs_fix hb)) hgo ?_ hc hw
  rw [← renL_append, ← fixL_append, dryL_fix ν hdr, dryL_ren ρ hdr]
  exact hp
theorem DE.tail {j : Ord} {i : Nat} {is : List Nat} (hj : j.2 = i :: is) (hch : chainB arr j = true) (hw : OE nb P ρr n arr (j.2.filterMap (arr[·]?)) m h nx hf K) : DE nb P ρr n arr j.2.length j.1 m h nx hf K :=
  fun ρ ν hg hn ht => wA.tail hj hch (hw ρ ν hg)
end Go.Fw
