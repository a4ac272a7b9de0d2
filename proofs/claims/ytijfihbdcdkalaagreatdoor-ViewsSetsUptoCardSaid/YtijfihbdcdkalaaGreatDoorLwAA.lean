/- A part of the proof: LwAA -/
import Derived.Test.YtijfihbdcdkalaaGreatDoorLwW
set_option linter.all false
set_option linter.unusedSectionVars false
set_option linter.unusedVariables false
set_option linter.unusedSimpArgs false
namespace Go.Fw
variable [Gl]
variable {P : Program} {ρr : Option Nat} {n nb : Nat} {Q : LPo} {arr : Array Oper} {o : Oper} {os : List Oper} {κ : List Kt} {kn : Kn} {m : Fl} {h hf : Hp} {nx : Nat} {dl : List Nat}
theorem Safe.capO {d : Nat} {T e : TypeId} {a : Operand} {b o' len c : Nat} (hop : o.op = .call { callee := .builtin .cap, args := #[a], argTypes := #[T] }) (hT : tslice P T = some e) (ha : evX m a = some (.slice b o' len c)) (hr : rdyO arr kn m n o = some d)
    (hs : Safe nb P ρr n Q (.ops arr .no os κ ((d, none) :: kn) ((d, .int .i64 c) :: m) h nx hf dl)) : Safe nb P ρr n Q (.ops arr .no (o :: os) κ kn m h nx hf dl) := by
  refine Safe.op hr (LS.real fun ρ hg hn ht => ?_)
  obtain ⟨q, hq⟩ := evX_vld ht ha
  have ha' := evX_ren (ρ := ρ) ha
  simp only [renV, hq] at ha'
  exact OpS.cap hop hT ha' ⟨ρ, .int .i64 c, h, nx, hf, agr.refl _ _, hg, by rw [renT_pu]; exact Ent.refl _ _, hs⟩
theorem zcells_dry {z : List V} (hz : z.all dry = true) (k : Nat) : (zcells z k).all dry = true := by
  rw [List.all_eq_true]
  intro v hv
  simp only [zcells, List.mem_map] at hv
  obtain ⟨i, _, rfl⟩ := hv
  rw [List.getD_eq_getElem?_getD]
  cases h : z[i % z.length]? with
  | none => rfl
  | some u => exact List.all_eq_true.1 hz u (List.mem_of_getElem? h)
theorem Safe.appZ {d k by_ len cap j p o' nn : Nat} {sT e xT : TypeId} {a b : Operand} {T : TypeId} {z cs : List V} {kn' kx : IntKind} {J : Int} (hop : o.op = .call { callee := .builtin .append, args := #[a, b], argTypes := #[sT, xT] }) (he : elemE P sT = some (e, k, by_, z)) (hxT : P.underlying xT = some (.int kn'))
    (ha : evX m a = some (.slice p o' len cap)) (hb : evX m b = some (.int kx J)) (hJ : J = (j : Nat)) (hg : hget h p = some (.cells T cs nn)) (hl : o' + len * k ≤ cs.length) (hcap : cap < len + j) (hj : 0 < j) (hbd : len + j ≤ 100000000) (hzd : z.all dry = true) (hr : rdyO arr kn m n o = some d)
    (hs : ∀ N', len + j ≤ N' → Safe nb P ρr n Q (.ops arr .no os κ ((d, none) :: kn) ((d, .slice nx 0 (len + j) N') :: m) ((nx, .cells e ((cs.drop o').take (len * k) ++ zcells z (j * k)) (N' * k)) :: h) (nx + 1) hf dl)) :
    Safe nb P ρr n Q (.ops arr .no (o :: os) κ kn m h nx hf dl) := by
  subst hJ
  have hbd2 := bnd_app (elemE_b he) hbd
  refine Safe.op hr (LS.real fun ρ hg2 hn ht => ?_)
  obtain ⟨c, hc⟩ := evX_vld ht ha
  have ha' := evX_ren (ρ := ρ) ha
  have hg' := hget_ren (ρ := ρ) hg hn
  rw [ky_eq hc] at hg'
  simp only [renV, hc] at ha'
  refine OpS.append_zeros ⟨hop⟩ (elemE_ok he) hxT ha' (evX_ren hb) hg' (by rw [renL_length]; exact hl) hcap hj hbd2 fun q N' hq hN' => ?_
  have e1 : ((renL ρ cs).drop o').take (len * k) ++ zcells z (j * k) = renL ρ ((cs.drop o').take (len * k) ++ zcells z (j * k)) := by
    rw [renL_drop, renL_take, renL_append, dryL_ren ρ (zcells_dry hzd _)]
  rw [e1]
  have hod := rdyO_dst hr
  have := ent_new (b := q) (mkl := .slice nx 0 (len + j) N') (obl := .cells e ((cs.drop o').take (len * k) ++ zcells z (j * k)) (N' * k)) (d := o.dst) (hf := hf) (m := m) (hg2.fresh nx (Nat.le_refl _)) hg2.keys
  simp only [renV, rex, if_pos, renO] at this
  exact ⟨rex ρ nx q, .slice nx 0 (len + j) N', (nx, .cells e ((cs.drop o').take (len * k) ++ zcells z (j * k)) (N' * k)) :: h, nx + 1, hf, agr_rex hg2.base q, hg2.push q _, this, hs N' hN'⟩
theorem Safe.cpS {d k l2 c2 o2 p2 nn2 len cap p o' nn : Nat} {sT e xT : TypeId} {a b : Operand} {T T2 : TypeId} {cs cs2 : List V} (hop : o.op = .call { callee := .builtin .copy, args := #[a, b], argTypes := #[sT, xT] }) (hsl : tslice P sT = some e) (hsz : tsz P e = some k)
    (ha : evX m a = some (.slice p o' len cap)) (hb : evX m b = some (.slice p2 o2 l2 c2)) (hg : hget h p = some (.cells T cs nn)) (hg2 : hget h p2 = some (.cells T2 cs2 nn2)) (hr : rdyO arr kn m n o = some d)
    (hl2 : o2 + (min l2 len) * k ≤ cs2.length) (hl : o' ≤ cs.length) (hln : o' + (min l2 len) * k ≤ nn) (hlf : ((cs2.drop o2).take ((min l2 len) * k)).all leafV = true)
    (hs : Safe nb P ρr n Q (.ops arr .no os κ ((d, none) :: kn) ((d, .int .i64 (min l2 len : Nat)) :: m) (hset h p (.cells T (putL cs o' ((cs2.drop o2).take ((min l2 len) * k))) nn)) nx hf dl)) :
    Safe nb P ρr n Q (.ops arr .no (o :: os) κ kn m h nx hf dl) := by
  refine Safe.op hr (LS.real fun ρ gd hn ht => ?_)
  obtain ⟨c, hc⟩ := evX_vld ht ha
  obtain ⟨c', hc'⟩ := evX_vld ht hb
  have ha' := evX_ren (ρ := ρ) ha
  have hb' := evX_ren (ρ := ρ) hb
  simp only [renV, hc] at ha'
  simp only [renV, hc'] at hb'
  have hg' := hget_ren (ρ := ρ) hg hn
  have hg2' := hget_ren (ρ := ρ) hg2 hn
  rw [ky_eq hc] at hg'
  rw [ky_eq hc'] at hg2'
  simp only [renO] at hg' hg2'
  refine OpS.copyS ⟨hop⟩ hsl hsz ha' hb' hg' hg2' (by rw [renL_length]; exact hl2) (by rw [renL_length]; exact hl) hln (by rw [renL_drop, renL_take]; exact all_leaf_ren hlf) ?_
  have hset' := hset_ren (ρ := ρ) (hf := hf) (o' := .cells T (putL cs o' ((cs2.drop o2).take ((min l2 len) * k))) nn) hg hn
  rw [ky_eq hc] at hset'
  refine ⟨ρ, .int .i64 (min l2 len : Nat), _, nx, hf, agr.refl _ _, hset_keys gd, ?_, hs⟩
  rw [renT_pu, ← hset', renO, renL_drop, renL_take, putL_ren]
  exact Ent.refl _ _
theorem Safe.ovl {d : Nat} {f : FuncId} {tS tR e : TypeId} {k b1 l1 c1 b2 o2 l2 c2 n1 n2 : Nat} {T1 T2 : TypeId} {cs1 cs2 : List V} (hv : IsOverlaps P f tS tR e k) (hc : callee? m o = some (f, [.slice b1 0 l1 c1, .slice b2 o2 l2 c2])) (hr : rdyO arr kn m n o = some d)
    (hv1 : ∀ ρ, vldT ρ m → ∃ q1 q2, ρ b1 = some q1 ∧ ρ b2 = some q2) (h1 : hget h b1 = some (.cells T1 cs1 n1)) (h2 : hget h b2 = some (.cells T2 cs2 n2)) (hn1 : 0 < n1) (hn2 : 0 < n2) (hnn : n1 ≠ n2) (hT1 : T1 ≠ 5)
    (hs : Safe nb P ρr n Q (.ops arr .no os κ ((d, none) :: kn) ((d, .bool false) :: m) h nx hf dl)) : Safe nb P ρr n Q (.ops arr .no (o :: os) κ kn m h nx hf dl) := by
  refine Safe.callS hc hr fun ρ hg hn ht => ?_
  obtain ⟨q1, q2, e1, e2⟩ := hv1 ρ ht
  have g1 := hget_ren (ρ := ρ) h1 hn
  have g2 := hget_ren (ρ := ρ) h2 hn
  rw [ky_eq e1] at g1
  rw [ky_eq e2] at g2
  simp only [renL, renV, e1, e2]
  simp only [renO] at g1 g2
  have hne : q1 ≠ q2 := fun e => by
    subst e
    rw [g1] at g2
    simp only [Option.some.injEq, AObj.cells.injEq] at g2
    exact hnn g2.2.2
  exact CallS.overlaps hv hne g1 g2 hn1 hn2 hT1 ⟨ρ, .bool false, h, nx, hf, agr.refl _ _, hg, by rw [renT_pu]; exact Ent.refl _ _, hs⟩
theorem eva_slN {T e : TypeId} {x : Operand} {lo : Option Operand} {k : Nat} {l : Option Int} (hop : o.op = .slice T x lo none none) (hx : evX m x = some .nilslice) (hT : tslice P T = some e) (hk : tsz P e = some k) (hlo : evI m lo = some l) (hl : l.getD ((0 : Nat) : Int) = ((0 : Nat) : Int)) : EvA P m o .nilslice := by
  intro ρ h ht
  obtain ⟨q1, e1, g1⟩ := evI_B (ρ := ρ) 0 hlo hl
  have e3 : evB (renT ρ m) none = some none := rfl
  simp only [evP, hop, evX_ren hx, renV, e1, e3, evSlice, hT, hk, g1, Option.getD_none]
  simp
theorem Safe.slN {d : Nat} {dr : Dr} {T e : TypeId} {x : Operand} {lo : Option Operand} {k : Nat} {l : Option Int} (hop : o.op = .slice T x lo none none) (hx : evX m x = some .nilslice) (hT : tslice P T = some e) (hk : tsz P e = some k) (hlo : evI m lo = some l) (hl : l.getD ((0 : Nat) : Int) = ((0 : Nat) : Int)) (hrd : rdyO arr kn m n o = some d)
    (hs : Safe nb P ρr n Q (.ops arr dr.nx os κ ((d, none) :: kn) ((d, .nilslice) :: m) h nx hf dl)) (hck : ckA h .nilslice dr = true := by rfl) : Safe nb P ρr n Q (.ops arr dr (o :: os) κ kn m h nx hf dl) := Safe.valA (eva_slN hop hx hT hk hlo hl) hrd hs hck
theorem wk_le {ρ : Nat → Option Nat} {i : Nat} (hl : lk m i = some .nilslice) : Fr.le (renT ρ m) (renT ρ ((i, .fslice [] 0) :: m)) := fun j v' hv' => by
  simp only [renT, lk] at hv' ⊢
  cases hb : Nat.beq j i with
  | true =>
    rw [hb] at hv'
    simp only [cond_true, Option.map_some, Option.some.injEq] at hv'
    subst hv'
    rw [Nat.eq_of_beq_eq_true hb, hl]
    exact ⟨.nilslice, rfl, VLe.nils⟩
  | false =>
    rw [hb] at hv'
    exact ⟨v', hv', VLe.refl _⟩
theorem Safe.wkO {i : Nat} (hl : lk m i = some .nilslice) (hs : Safe nb P ρr n Q (.ops arr .no os κ [] ((i, .fslice [] 0) :: m) h nx hf dl)) : Safe nb P ρr n Q (.ops arr .no os κ kn m h nx hf dl) := fun hkn ρ hg =>
  RO.ent (Ent.weak (wk_le hl)) (hs knNil ρ hg)
end Go.Fw
