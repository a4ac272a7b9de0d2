/- A part of the proof: LwR -/
import Derived.Test.YtmohgegpcfkooaaGreatDoorLwK
set_option linter.all false
set_option linter.unusedSectionVars false
set_option linter.unusedVariables false
set_option linter.unusedSimpArgs false
namespace Go.Fw
variable [Gl]
variable {P : Program} {ρr : Option Nat} {n nb : Nat} {Q : LPo} {arr : Array Oper} {o : Oper} {os : List Oper} {κ : List Kt} {kn : Kn} {m : Fl} {h hf : Hp} {nx : Nat} {dl : List Nat} {dr : Dr}
theorem OpS.frz {t : Fr} {h : Hp} {K : V → Hp → Prop} (hO : OpS P ρr n o t h fun v h' => ∃ b T cs nn len cap, v = .slice b 0 len cap ∧ h' = (b, .cells T cs nn) :: h ∧ K (.fslice cs len) h) : OpS P ρr n o t h K := by
  intro F w tm D next Q' ho hf hk
  refine hO F w tm D next Q' ho hf ?_
  rintro v x h' F' w' ⟨b, T, cs, nn, len, cap, rfl, rfl, hK⟩ o' r tr
  obtain ⟨c, fz, hx, hl, _, _, hr⟩ := own_cells o' (b := b) (T := T) (cs := cs) (n := nn) (by simp [hget])
  have hF := o'.off b (by simp)
  have o1 := o'.freeze (b := b) (o := .cells T cs nn) (by simp) hx
  have t1 := Trans.freeze (w := w') (x := Obj.cells c T fz) hF (h := (b, AObj.cells T cs nn) :: h) (by simp)
  have e0 : hdel ((b, AObj.cells T cs nn) :: h) b = h := by simp [hdel]
  rw [e0] at o1 t1
  have hv := frzV_r (T := T) (fz := fz) hF hl hr r
  simp only [frzV, if_pos, List.drop_zero] at hv
  exact hk _ _ _ _ _ hK o1 hv (tr.trans t1)
theorem frzX_get (k : Nat) (cs : List V) (l : List V) (i : Nat) : (frzX k cs l)[i]? = (l[i]?).map (frzW k cs) := by
  induction l generalizing i with
  | nil => simp [frzX]
  | cons v r ih => cases i with
    | zero => simp [frzX]
    | succ i => simp [frzX, ih]
theorem Tri.lendL {f : FuncId} {us : List V} {r : V} {k b nn : Nat} {T : TypeId} {cs : List V} {ρ : Nat → Option Nat} (hb : ρ k = some b) (hp : PTri P f (renL ρ (frzX k cs us)) r) (hd : dryV r = true) :
    Tri P f (renL ρ us) [(b, .cells T cs nn)] fun v h' => v = r ∧ h' = [(b, .cells T cs nn)] := by
  intro F w av ho ha
  obtain ⟨c, fz, hc, hl, hnn, hz, hr⟩ := own_cells ho (b := b) (T := T) (cs := cs) (n := nn) (by simp [hget])
  have hF := ho.off b (by simp)
  have h1 := ho.freeze (b := b) (o := .cells T cs nn) (by simp) hc
  have hdel0 : hdel [(b, AObj.cells T cs nn)] b = [] := by simp [hdel]
  rw [hdel0] at h1
  have hmono := FAdd_le (x := .cells c T fz) hF
  have ha' : VRs (FAdd F b (.cells c T fz)) (renL ρ (frzX k cs us)) av := by
    refine ⟨by have := ha.1; rw [renL_length] at this ⊢; rw [frzX_length]; exact this, fun i v hv => ?_⟩
    rw [renL_get, frzX_get] at hv
    simp only [Option.map_eq_some_iff] at hv
    obtain ⟨_, ⟨u, hu, rfl⟩, rfl⟩ := hv
    exact frzW_r hb hF hl hr u (ha.2 i (renV ρ u) (by rw [renL_get, hu]; rfl))
  refine (hp _ w av h1 ha').mono ?_
  rintro e w' ⟨v, x, h', F', rfl, ⟨rfl, rfl⟩, o', hv, tr⟩
  have hbF' : F' b = some (.cells c T fz) := tr.mono b _ (by simp [FAdd])
  have hb' : w'.heap[b]? = some (.cells c T fz) := o'.frz b _ hbF'
  have hle : FLe F (FDel F' b) := fun i o hi => by
    have hne : i ≠ b := fun e => by rw [e, hF] at hi; cases hi
    simp only [FDel, if_neg hne]
    exact tr.mono i o (hmono i o hi)
  refine ⟨_, x, _, FDel F' b, rfl, ⟨rfl, rfl⟩, ⟨by simp, ?_, ?_, ?_, FLe.trans ho.gl hle⟩, dryV_r hd hv, ⟨hle, tr.size, ?_, ?_, ?_, tr.os, tr.tape, tr.output, tr.drn⟩⟩
  · intro b1 o1 hm
    simp only [List.mem_singleton, Prod.mk.injEq] at hm
    obtain ⟨rfl, rfl⟩ := hm
    exact ⟨_, hb', by rw [hnn]; exact .cells T cs c fz hl hz fun i v hv => (hr i v hv).mono hle⟩
  · intro b1 hm
    simp only [Hp.ns_cons, Hp.ns_nil, List.mem_singleton] at hm
    subst hm
    simp [FDel]
  · intro i o hi
    simp only [FDel] at hi
    split at hi
    · simp at hi
    · exact o'.frz i o hi
  · intro i hi _
    exact tr.keep i hi (by simp)
  · exact fun i hi => .inl hi
  · intro i hi
    simp only [FDel] at hi
    split at hi
    · rename_i e; exact .inl (by simp [e])
    · rename_i e
      rcases tr.fr i (by simpa [FAdd, e] using hi) with h | h
      · simp at h
      · exact .inr h
theorem hget_perm : ∀ {h : Hp} {k : Nat} {o : AObj}, hget h k = some o → ((k, o) :: hdel h k).Perm h
  | [], k, o, hg => by simp [hget] at hg
  | p :: r, k, o, hg => by
    simp only [hget] at hg
    simp only [hdel]
    split at hg
    · rename_i e
      simp only [Option.some.injEq] at hg
      subst e; subst hg
      rw [if_pos rfl]
    · rename_i e
      rw [if_neg e]
      exact ((hget_perm hg).cons p |>.symm.trans (List.Perm.swap _ _ _)).symm
theorem Safe.callF {d : Nat} {f : FuncId} {as as' : List V} {r : V} (k : Nat) {T : TypeId} {cs : List V} {nn : Nat} (hp : PTri P f as' r) (hc : callee? m o = some (f, as)) (hg : hget h k = some (.cells T cs nn)) (has : frzX k cs as = as') (hr : rdyO arr kn m n o = some d)
    (hcs : cs.all dry = true) (hside : (isGo P f && as'.all dry && dryV r && dry r) = true) (hs : Safe nb P ρr n Q (.ops arr .no os κ ((d, none) :: kn) ((d, r) :: m) h nx hf dl)) : Safe nb P ρr n Q (.ops arr .no (o :: os) κ kn m h nx hf dl) := by
  simp only [Bool.and_eq_true] at hside
  subst has
  refine Safe.callS hc hr fun ρ hg2 hn ht => ?_
  obtain ⟨b, hb⟩ := Option.isSome_iff_exists.1 (hg2.keys _ (hget_mem hg))
  have hg' := hget_ren (ρ := ρ) hg hn
  rw [ky_eq hb] at hg'
  simp only [renO, dryL_ren ρ hcs] at hg'
  have t0 := Tri.lendL (nn := nn) (T := T) hb (by rw [dryL_ren ρ hside.1.1.2]; exact hp) hside.1.2
  have t1 := (t0.frame (hdel (renH ρ h ++ hf) b)).perm (hget_perm hg')
  refine CallS.of_tri hside.1.1.1 (Tri.vent t1 ?_)
  rintro v h' ⟨h1, rfl, ⟨rfl, rfl⟩, _⟩
  refine ⟨v, renH ρ h ++ hf, ?_, ρ, v, h, nx, hf, agr.refl _ _, hg2, by rw [renT_pu, dry_ren ρ hside.2]; exact Ent.refl _ _, hs⟩
  exact .perm (hget_perm hg').symm (.refl _ _)
theorem subN {sg : Sg} {h3 : Hp} : (relH sg []).Sublist h3 := List.nil_sublist _
theorem subK {sg : Sg} {a j : Nat} {o o' : AObj} {r h3 : Hp} (hj : sgF sg a = some j) (ho : renO (sgF sg) o = o') (h : (relH sg r).Sublist h3) : (relH sg ((a, o) :: r)).Sublist ((j, o') :: h3) := by
  simp only [relH, hj]
  subst ho
  exact List.Sublist.cons_cons _ h
theorem subD {sg : Sg} {r h3 : Hp} {x : Nat × AObj} (h : (relH sg r).Sublist h3) : (relH sg r).Sublist (x :: h3) := List.Sublist.cons _ h
theorem renO_dry {s : Nat → Option Nat} {T : TypeId} {cs : List V} {n : Nat} (hd : cs.all dry = true) : renO s (.cells T cs n) = .cells T cs n := by rw [renO, dryL_ren s hd]
variable {α : Type} {y : Code}
theorem Safe.ccut1 {c : Code} {k0 : Kt} (fr : α → Fl) (hp : α → Hp) (nx0 : Nat) (I : α → Prop) (hx : Safe nb P ρr n Q (.code c (k0 :: .lp (Join nb fr hp nx0 hf dl I) :: κ) kn m h nx hf dl))
    (hy : ∀ a, I a → Safe nb P ρr n Q (.code y κ [] (fr a) (hp a) nx0 hf dl)) : Safe nb P ρr n Q (.code c (k0 :: .sq y :: κ) kn m h nx hf dl) := Safe.cutC [k0] fr hp nx0 I hx hy
mutual
def wkV : V → V
  | .nilslice => .fslice [] 0
  | .agg l => .agg (wkL l)
  | .tup l => .tup (wkL l)
  | v => v
def wkL : List V → List V
  | [] => []
  | v :: r => wkV v :: wkL r
end
theorem wkL_length : ∀ l : List V, (wkL l).length = l.length
  | [] => rfl
  | v :: r => by simp [wkL, wkL_length r]
mutual
theorem wkV_r {F : Froz} : ∀ (v : V) {x : Value}, VR F v x → VR F (wkV v) x
  | .nilslice, x, h => VLe.nils F x h
  | .agg l, x, h => by
    obtain ⟨vs, rfl, hv⟩ := h.agg_inv
    exact .of_agg ⟨by rw [hv.1, wkL_length], wkL_r l (fun i => vs.getD i undef) hv.2⟩
  | .tup l, x, h => by
    obtain ⟨vs, rfl, hv⟩ := h.tup_inv
    exact .of_tup ⟨by rw [hv.1, wkL_length], wkL_r l (fun i => vs.getD i undef) hv.2⟩
  | .ptr _ _, x, h | .slice _ _ _ _, x, h | .clo _ _, x, h | .iface _ _, x, h | .map _, x, h | .int _ _, x, h | .bool _, x, h | .str _, x, h | .flt _ _, x, h | .nilptr, x, h | .fptr _ _, x, h | .fslice _ _, x, h | .eslice, x, h | .nilmap, x, h | .nilfunc, x, h | .yield _, x, h | .niliface, x, h => h
theorem wkL_r {F : Froz} : ∀ (l : List V) (g : Nat → Value), (∀ (i : Nat) v, l[i]? = some v → VR F v (g i)) → ∀ (i : Nat) v, (wkL l)[i]? = some v → VR F v (g i)
  | [], g, h, i, v, hv => by simp [wkL] at hv
  | u :: r, g, h, i, v, hv => by
    cases i with
    | zero =>
      simp only [wkL, List.getElem?_cons_zero, Option.some.injEq] at hv
      subst hv
      exact wkV_r u (h 0 _ rfl)
    | succ i =>
      simp only [wkL, List.getElem?_cons_succ] at hv
      exact wkL_r r (fun j => g (j + 1)) (fun j w hw => h (j + 1) w (by simpa using hw)) i v hv
end
theorem wkE {r0 r : V} (h : wkV r0 = r) : VLe r0 r := fun F x hx => h ▸ wkV_r r0 hx
end Go.Fw
