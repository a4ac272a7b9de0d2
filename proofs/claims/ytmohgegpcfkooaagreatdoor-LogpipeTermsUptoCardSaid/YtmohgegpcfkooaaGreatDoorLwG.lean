/- A part of the proof: LwG -/
import Derived.Test.YtmohgegpcfkooaaGreatDoorLwF
set_option linter.all false
set_option linter.unusedSectionVars false
set_option linter.unusedVariables false
set_option linter.unusedSimpArgs false
namespace Go.Fw
variable [Gl]
variable {P : Program} {ρr : Option Nat} {n nb : Nat} {Q : LPo} {arr : Array Oper} {o : Oper} {os : List Oper} {κ : List Kt} {kn : Kn} {m : Fl} {h hf : Hp} {nx : Nat} {dl : List Nat}
abbrev Sg := List (Nat × Nat)
def sgF : Sg → Nat → Option Nat
  | [], _ => none
  | p :: r, i => bif Nat.beq i p.1 then some p.2 else sgF r i
def sgI : Nat → Sg
  | 0 => []
  | n + 1 => (n, n) :: sgI n
def cmp (ρ : Nat → Option Nat) (sg : Sg) : Nat → Option Nat := fun k => (sgF sg k).bind ρ
mutual
theorem renV_cmp {ρ : Nat → Option Nat} {sg : Sg} {F : Froz} : ∀ (v : V) {x : Value}, VR F (renV ρ (renV (sgF sg) v)) x → VR F (renV (cmp ρ sg) v) x
  | .ptr b o, x, h => by
    simp only [renV, cmp] at h ⊢
    cases hb : sgF sg b with
    | none => rw [hb] at h; simp only [imp, renV] at h; split at h <;> exact absurd h.slice_le (by omega)
    | some c => rw [hb] at h; simpa only [renV, Option.bind_some] using h
  | .slice b o l k, x, h => by
    simp only [renV, cmp] at h ⊢
    cases hb : sgF sg b with
    | none => rw [hb] at h; simp only [imp, renV] at h; split at h <;> exact absurd h.slice_le (by omega)
    | some c => rw [hb] at h; simpa only [renV, Option.bind_some] using h
  | .map b, x, h => by
    simp only [renV, cmp] at h ⊢
    cases hb : sgF sg b with
    | none => rw [hb] at h; simp only [imp, renV] at h; split at h <;> exact absurd h.slice_le (by omega)
    | some c => rw [hb] at h; simpa only [renV, Option.bind_some] using h
  | .clo f cs, x, h => by
    simp only [renV] at h ⊢
    obtain ⟨vs, rfl, hv⟩ := h.clo_inv
    exact .of_clo ⟨by rw [hv.1]; simp, renL_cmp cs (fun i => vs.getD i undef) hv.2⟩
  | .iface t v, x, h => by
    simp only [renV] at h ⊢
    obtain ⟨y, rfl, hy⟩ := h.iface_inv
    exact .iface _ _ _ (renV_cmp v hy)
  | .agg cs, x, h => by
    simp only [renV] at h ⊢
    obtain ⟨vs, rfl, hv⟩ := h.agg_inv
    exact .of_agg ⟨by rw [hv.1]; simp, renL_cmp cs (fun i => vs.getD i undef) hv.2⟩
  | .tup cs, x, h => by
    simp only [renV] at h ⊢
    obtain ⟨vs, rfl, hv⟩ := h.tup_inv
    exact .of_tup ⟨by rw [hv.1]; simp, renL_cmp cs (fun i => vs.getD i undef) hv.2⟩
  | .int _ _, x, h | .bool _, x, h | .str _, x, h | .flt _ _, x, h | .nilptr, x, h | .fptr _ _, x, h | .nilslice, x, h | .fslice _ _, x, h | .eslice, x, h | .nilmap, x, h | .nilfunc, x, h | .yield _, x, h | .niliface, x, h => by
    simpa only [renV] using h
theorem renL_cmp {ρ : Nat → Option Nat} {sg : Sg} {F : Froz} : ∀ (l : List V) (g : Nat → Value), (∀ (i : Nat) v, (renL ρ (renL (sgF sg) l))[i]? = some v → VR F v (g i)) → ∀ (i : Nat) v, (renL (cmp ρ sg) l)[i]? = some v → VR F v (g i)
  | [], g, h, i, v, hv => by simp [renL] at hv
  | u :: r, g, h, i, v, hv => by
    cases i with
    | zero =>
      simp only [renL, List.getElem?_cons_zero, Option.some.injEq] at hv
      subst hv
      exact renV_cmp u (h 0 _ (by simp [renL]))
    | succ i =>
      simp only [renL, List.getElem?_cons_succ] at hv
      exact renL_cmp r (fun j => g (j + 1)) (fun j w hw => h (j + 1) w (by simpa only [renL, List.getElem?_cons_succ] using hw)) i v hv
end
theorem renO_cmp {ρ : Nat → Option Nat} {sg : Sg} {F : Froz} {o : AObj} {x : Obj} (h : OR F (renO ρ (renO (sgF sg) o)) x) : OR F (renO (cmp ρ sg) o) x := by
  cases o with
  | cells T cs n =>
    simp only [renO] at h ⊢
    cases h with
    | cells _ _ c fz hl hz hv => exact .cells T _ c fz (by simpa using hl) hz (renL_cmp cs (fun i => c.getD i undef) hv)
  | map es =>
    simp only [renO] at h ⊢
    cases h with
    | map _ xs clock hl hv hb hd =>
      refine .map _ xs clock (by simpa using hl) (fun i e y he hy => ?_) hb hd
      rw [List.getElem?_map] at he
      simp only [Option.map_eq_some_iff] at he
      obtain ⟨e0, h0, rfl⟩ := he
      have := hv i (renV ρ (renV (sgF sg) e0.1), renV ρ (renV (sgF sg) e0.2)) y (by rw [List.getElem?_map, List.getElem?_map, h0]; rfl) hy
      exact ⟨renV_cmp _ this.1, renV_cmp _ this.2⟩
  | _ => simpa only [renO] using h
def fits (sg : Sg) (m : Fl) : Fl → Prop
  | [] => True
  | (i, v) :: r => (∃ u, lk m i = some u ∧ ∀ ρ, VLe (renV ρ u) (renV ρ (renV (sgF sg) v))) ∧ fits sg m r
theorem fits_get {sg : Sg} {m : Fl} : ∀ {m2 : Fl} {i : Nat} {v : V}, fits sg m m2 → lk m2 i = some v → ∃ u, lk m i = some u ∧ ∀ ρ, VLe (renV ρ u) (renV ρ (renV (sgF sg) v))
  | [], i, v, _, h => by simp [lk] at h
  | (j, u) :: r, i, v, hf, h => by
    simp only [lk] at h
    cases hb : Nat.beq i j with
    | true =>
      rw [hb] at h
      simp only [cond_true, Option.some.injEq] at h
      subst h
      rw [Nat.eq_of_beq_eq_true hb]
      exact hf.1
    | false => rw [hb] at h; exact fits_get hf.2 h
theorem fit {sg : Sg} {m : Fl} {i : Nat} {v : V} (h : lk m i = some (renV (sgF sg) v)) : ∃ u, lk m i = some u ∧ ∀ ρ, VLe (renV ρ u) (renV ρ (renV (sgF sg) v)) := ⟨_, h, fun ρ => VLe.refl _⟩
def relH (sg : Sg) : Hp → Hp
  | [] => []
  | p :: r => match sgF sg p.1 with
    | some j => (j, renO (sgF sg) p.2) :: relH sg r
    | none => relH sg r
def sgOk (nb nx2 : Nat) (sg : Sg) (h2 : Hp) : Bool := sg.all (fun p => Nat.blt p.1 nx2) && h2.all (fun p => (sgF sg p.1).isSome) && (List.range nb).all (fun k => match sgF sg k with
  | some j => Nat.beq j k
  | none => false) && Nat.ble nb nx2
theorem sgF_lt {nx2 : Nat} : ∀ {sg : Sg}, sg.all (fun p => Nat.blt p.1 nx2) = true → ∀ k, nx2 ≤ k → sgF sg k = none
  | [], _, k, _ => rfl
  | p :: r, h, k, hk => by
    simp only [List.all_cons, Bool.and_eq_true] at h
    simp only [sgF]
    have : Nat.beq k p.1 = false := by
      cases hb : Nat.beq k p.1 with
      | false => rfl
      | true => have := Nat.eq_of_beq_eq_true hb; have := blt_lt h.1; omega
    rw [this]
    exact sgF_lt h.2 k hk
structure Rel (nb : Nat) (sg : Sg) (m : Fl) (h : Hp) (nx : Nat) (m2 : Fl) (h2 : Hp) (nx2 : Nat) : Prop where
  fr : fits sg m m2
  hp : ∃ h3, h3.Perm h ∧ (relH sg h2).Sublist h3
  ok : sgOk nb nx2 sg h2 = true
theorem relH_ren {ρ : Nat → Option Nat} {sg : Sg} : ∀ {h2 : Hp}, h2.all (fun p => (sgF sg p.1).isSome) = true → (renH ρ (relH sg h2)).ns = (renH (cmp ρ sg) h2).ns ∧
    ∀ b o, (b, o) ∈ renH (cmp ρ sg) h2 → ∃ p, p ∈ h2 ∧ o = renO (cmp ρ sg) p.2 ∧ (b, renO ρ (renO (sgF sg) p.2)) ∈ renH ρ (relH sg h2)
  | [], _ => ⟨rfl, fun b o h => by simp [renH] at h⟩
  | p :: r, h => by
    simp only [List.all_cons, Bool.and_eq_true] at h
    obtain ⟨j, hj⟩ := Option.isSome_iff_exists.1 h.1
    obtain ⟨h1, h2⟩ := relH_ren (ρ := ρ) h.2
    have hk : ky (cmp ρ sg) p.1 = ky ρ j := by simp [ky, cmp, hj]
    simp only [relH, hj, renH_cons, Hp.ns_cons, hk]
    refine ⟨by rw [h1], fun b o hm => ?_⟩
    rcases List.mem_cons.1 hm with e | hm
    · simp only [Prod.mk.injEq] at e
      obtain ⟨rfl, rfl⟩ := e
      exact ⟨p, by simp, rfl, by simp⟩
    · obtain ⟨q, hq, e, hm'⟩ := h2 b o hm
      exact ⟨q, List.mem_cons_of_mem _ hq, e, List.mem_cons_of_mem _ hm'⟩
theorem Rel.ent {sg : Sg} {m2 : Fl} {h2 : Hp} {nx2 : Nat} (hr : Rel nb sg m h nx m2 h2 nx2) {ρ : Nat → Option Nat} (hg : good nb ρ nx h) (hf : Hp) :
    agr nb ρ (cmp ρ sg) ∧ good nb (cmp ρ sg) nx2 h2 ∧ Ent (renT ρ m) (renH ρ h ++ hf) (renT (cmp ρ sg) m2) (renH (cmp ρ sg) h2 ++ hf) := by
  have hok := hr.ok
  simp only [sgOk, Bool.and_eq_true] at hok
  obtain ⟨⟨⟨ok1, ok2⟩, ok3⟩, ok4⟩ := hok
  obtain ⟨h3, hp3, hs3⟩ := hr.hp
  obtain ⟨hns, hmem⟩ := relH_ren (ρ := ρ) ok2
  have hsub : (renH ρ (relH sg h2)).Sublist (renH ρ h3) := hs3.map _
  have hperm : (renH ρ h3).Perm (renH ρ h) := hp3.map _
  refine ⟨fun k hk => ?_, ⟨fun k hk => by simp [cmp, sgF_lt ok1 k hk], fun p hp => ?_, by simpa using ok4⟩, ?_⟩
  · have := List.all_eq_true.1 ok3 k (List.mem_range.2 hk)
    cases hb : sgF sg k with
    | none => rw [hb] at this; cases this
    | some j => rw [hb] at this; simp only [cmp, hb, Option.bind_some]; rw [Nat.eq_of_beq_eq_true this]
  · obtain ⟨j, hj⟩ := Option.isSome_iff_exists.1 (List.all_eq_true.1 ok2 p hp)
    have hmem2 : (j, renO (sgF sg) p.2) ∈ relH sg h2 := by
      clear hmem hns hsub hs3 hr ok2
      induction h2 with
      | nil => simp at hp
      | cons q r ih =>
        rcases List.mem_cons.1 hp with rfl | hp
        · simp [relH, hj]
        · have := ih hp
          simp only [relH]
          split
          · exact List.mem_cons_of_mem _ this
          · exact this
    have := hg.keys _ (hp3.subset (hs3.subset hmem2))
    simpa [cmp, hj] using this
  · intro F w n tm ho hfr
    have ho2 : Own F (renH ρ (relH sg h2) ++ hf) w := (ho.perm (hperm.append_right hf)).sub (hsub.append_right hf)
    have hns2 : (renH (cmp ρ sg) h2 ++ hf).ns = (renH ρ (relH sg h2) ++ hf).ns := by rw [Hp.ns_append, Hp.ns_append, hns]
    refine ⟨F, ⟨by rw [hns2]; exact ho2.nodup, fun b o hm => ?_, by rw [hns2]; exact ho2.off, ho2.frz, ho2.gl⟩, ⟨hfr.size, fun i v hv => ?_⟩, ?_⟩
    · rcases List.mem_append.1 hm with hm | hm
      · obtain ⟨p, hp, rfl, hm'⟩ := hmem b o hm
        obtain ⟨x, hx, r⟩ := ho2.own b _ (List.mem_append_left _ hm')
        exact ⟨x, hx, renO_cmp r⟩
      · exact ho2.own b o (List.mem_append_right _ hm)
    · unfold renT at hv
      simp only [Option.map_eq_some_iff] at hv
      obtain ⟨u, hu, rfl⟩ := hv
      obtain ⟨z, hz, hle⟩ := fits_get hr.fr hu
      obtain ⟨x, hx, r⟩ := hfr.at_ i (renV ρ z) (by simp [renT, hz])
      exact ⟨x, hx, renV_cmp u (hle ρ F x r)⟩
    · have t1 : Trans F (renH ρ h ++ hf) w F (renH ρ (relH sg h2) ++ hf) w := (Trans.perm (hperm.append_right hf)).trans (Trans.sub (hsub.append_right hf))
      exact ⟨t1.mono, t1.size, t1.keep, fun b hb => t1.names b (by rw [← hns2]; exact hb), t1.fr, t1.os, t1.tape, t1.output, t1.drn⟩
theorem Safe.rel (sg : Sg) {m2 : Fl} {h2 : Hp} {nx2 : Nat} {c : Code} (hr : Rel nb sg m h nx m2 h2 nx2) (hs : Safe nb P ρr n Q (.code c κ [] m2 h2 nx2 hf dl)) : Safe nb P ρr n Q (.code c κ kn m h nx hf dl) := fun hk ρ hg => by
  obtain ⟨a, g, en⟩ := hr.ent hg hf
  refine WC.ent en ((hs (fun i b hi => by simp [kl] at hi) (cmp ρ sg) g).mono ?_)
  rintro e t' h' dl' ⟨ρ', m', h3, nx', hf', a2, g2, en2, q2⟩
  exact ⟨ρ', m', h3, nx', hf', a.trans a2, g2, en2, q2⟩
def Back (nb : Nat) {α : Type} (fr : α → Fl) (hp : α → Hp) (nx0 : Nat) (hf0 : Hp) (dl0 : List Nat) (meas : α → Nat) (I : α → Prop) (a : α) : Fl → Hp → Nat → Hp → List Nat → Prop := fun m h nx hf dl =>
  ∃ sg b, I b ∧ meas b < meas a ∧ hf = hf0 ∧ dl = dl0 ∧ Rel nb sg m h nx (fr b) (hp b) nx0
theorem knNil {m : Fl} : KnOk [] m := fun i b hi => by simp [kl] at hi
theorem Safe.loop {α : Type} {c : Code} (fr : α → Fl) (hp : α → Hp) (nx0 : Nat) (meas : α → Nat) (I : α → Prop) (a0 : α) (sg : Sg) (hr : Rel nb sg m h nx (fr a0) (hp a0) nx0) (h0 : I a0)
    (round : ∀ a, I a → Safe nb P ρr n Q (.code c (.lp (Back nb fr hp nx0 hf dl meas I a) :: κ) [] (fr a) (hp a) nx0 hf dl)) : Safe nb P ρr n Q (.code (.loop c) κ kn m h nx hf dl) := by
  refine Safe.rel (κ := κ) sg hr fun hk ρ hg => ?_
  refine WC.loopE (fun j t h' dl' => ∃ a ρ', meas a = j ∧ I a ∧ agr nb ρ ρ' ∧ good nb ρ' nx0 (hp a) ∧ t = renT ρ' (fr a) ∧ h' = renH ρ' (hp a) ++ hf ∧ dl' = dl) ?_ (j := meas a0) (Ent.refl _ _) ⟨a0, ρ, rfl, h0, agr.refl _ _, hg, rfl, rfl, rfl⟩
  rintro j t h' dl' ⟨a, ρ', rfl, hI, ag, gd, rfl, rfl, rfl⟩
  refine ((round a hI knNil) ρ' gd).mono ?_
  rintro e t2 h2 dl2 ⟨ρ2, m2, h3, nx2, hf2, a2, g2, en2, q2⟩
  cases e with
  | normal =>
    obtain ⟨sg2, b, hIb, hlt, rfl, rfl, hr2⟩ := q2
    obtain ⟨a3, g3, en3⟩ := hr2.ent g2 hf2
    exact ⟨meas b, _, _, hlt, en2.trans en3, b, cmp ρ2 sg2, rfl, hIb, ag.trans (a2.trans a3), g3, rfl, rfl, rfl⟩
  | _ => exact ⟨ρ2, m2, h3, nx2, hf2, ag.trans a2, g2, en2, q2⟩
def Join (nb : Nat) {α : Type} (fr : α → Fl) (hp : α → Hp) (nx0 : Nat) (hf0 : Hp) (dl0 : List Nat) (I : α → Prop) : Fl → Hp → Nat → Hp → List Nat → Prop := fun m h nx hf dl =>
  ∃ sg b, I b ∧ hf = hf0 ∧ dl = dl0 ∧ Rel nb sg m h nx (fr b) (hp b) nx0
theorem Safe.cut {α : Type} {x y : Code} (fr : α → Fl) (hp : α → Hp) (nx0 : Nat) (I : α → Prop) (hx : Safe nb P ρr n Q (.code x (.lp (Join nb fr hp nx0 hf dl I) :: κ) kn m h nx hf dl))
    (hy : ∀ a, I a → Safe nb P ρr n Q (.code y κ [] (fr a) (hp a) nx0 hf dl)) : Safe nb P ρr n Q (.code x (.sq y :: κ) kn m h nx hf dl) := fun hk ρ hg => by
  refine (hx hk ρ hg).mono ?_
  rintro e t' h' dl' ⟨ρ', m', h2, nx', hf', a, g, en, q⟩
  cases e with
  | normal =>
    obtain ⟨sg, b, hI, rfl, rfl, hr⟩ := q
    obtain ⟨a3, g3, en3⟩ := hr.ent g hf'
    refine ⟨cmp ρ' sg, fr b, hp b, nx0, hf', a.trans a3, g3, en.trans en3, hy b hI knNil⟩
  | _ => exact ⟨ρ', m', h2, nx', hf', a, g, en, q⟩
mutual
def frzW (k : Nat) (cs : List V) : V → V
  | .ptr p i => bif Nat.beq p k then .fptr cs i else .ptr p i
  | .slice p i len cap => bif Nat.beq p k then .fslice (cs.drop i) len else .slice p i len cap
  | .clo f l => .clo f (frzX k cs l)
  | .iface t v => .iface t (frzW k cs v)
  | .agg l => .agg (frzX k cs l)
  | .tup l => .tup (frzX k cs l)
  | v => v
def frzX (k : Nat) (cs : List V) : List V → List V
  | [] => []
  | v :: r => frzW k cs v :: frzX k cs r
end
theorem frzX_length (k : Nat) (cs : List V) : ∀ l : List V, (frzX k cs l).length = l.length
  | [] => rfl
  | v :: r => by simp [frzX, frzX_length k cs r]
def frzOb (k : Nat) (cs : List V) : AObj → AObj
  | .cells T l n => .cells T (frzX k cs l) n
  | .map es => .map (es.map fun e => (frzW k cs e.1, frzW k cs e.2))
  | o => o
def frzM (k : Nat) (cs : List V) (m : Fl) : Fl := m.map fun p => (p.1, frzW k cs p.2)
def frzHp (k : Nat) (cs : List V) (h : Hp) : Hp := h.map fun p => (p.1, frzOb k cs p.2)
section frz
variable {F : Froz} {ρ : Nat → Option Nat} {k b : Nat} {T : TypeId} {c : Array Value} {fz : Nat × Nat} {cs : List V}
mutual
theorem frzW_r (hb : ρ k = some b) (hF : F b = none) (hl : cs.length ≤ c.size) (hr : ∀ (i : Nat) v, cs[i]? = some v → VR F v (c.getD i undef)) : ∀ (v : V) {x : Value}, VR F (renV ρ v) x → VR (FAdd F b (.cells c T fz)) (renV ρ (frzW k cs v)) x
  | .ptr p i, x, h => by
    simp only [frzW]
    cases hp : Nat.beq p k with
    | true =>
      have := Nat.eq_of_beq_eq_true hp; subst this
      simp only [renV, hb] at h
      have h2 := frzV_r (T := T) (fz := fz) hF hl hr h
      simp only [frzV, if_pos] at h2
      simpa only [cond_true, renV] using h2
    | false => exact h.mono (FAdd_le hF)
  | .slice p i len cap, x, h => by
    simp only [frzW]
    cases hp : Nat.beq p k with
    | true =>
      have := Nat.eq_of_beq_eq_true hp; subst this
      simp only [renV, hb] at h
      have h2 := frzV_r (T := T) (fz := fz) hF hl hr h
      simp only [frzV, if_pos] at h2
      simpa only [cond_true, renV] using h2
    | false => exact h.mono (FAdd_le hF)
  | .clo f l, x, h => by
    simp only [frzW, renV] at h ⊢
    obtain ⟨vs, rfl, hv⟩ := h.clo_inv
    exact .of_clo ⟨by rw [hv.1]; simp [frzX_length], frzX_r hb hF hl hr l (fun i => vs.getD i undef) hv.2⟩
  | .iface t v, x, h => by
    simp only [frzW, renV] at h ⊢
    obtain ⟨y, rfl, hy⟩ := h.iface_inv
    exact .iface _ _ _ (frzW_r hb hF hl hr v hy)
  | .agg l, x, h => by
    simp only [frzW, renV] at h ⊢
    obtain ⟨vs, rfl, hv⟩ := h.agg_inv
    exact .of_agg ⟨by rw [hv.1]; simp [frzX_length], frzX_r hb hF hl hr l (fun i => vs.getD i undef) hv.2⟩
  | .tup l, x, h => by
    simp only [frzW, renV] at h ⊢
    obtain ⟨vs, rfl, hv⟩ := h.tup_inv
    exact .of_tup ⟨by rw [hv.1]; simp [frzX_length], frzX_r hb hF hl hr l (fun i => vs.getD i undef) hv.2⟩
  | .map _, x, h | .int _ _, x, h | .bool _, x, h | .str _, x, h | .flt _ _, x, h | .nilptr, x, h | .fptr _ _, x, h | .nilslice, x, h | .fslice _ _, x, h | .eslice, x, h | .nilmap, x, h | .nilfunc, x, h | .yield _, x, h | .niliface, x, h => by
    exact h.mono (FAdd_le hF)
theorem frzX_r (hb : ρ k = some b) (hF : F b = none) (hl : cs.length ≤ c.size) (hr : ∀ (i : Nat) v, cs[i]? = some v → VR F v (c.getD i undef)) : ∀ (l : List V) (g : Nat → Value), (∀ (i : Nat) v, (renL ρ l)[i]? = some v → VR F v (g i)) →
    ∀ (i : Nat) v, (renL ρ (frzX k cs l))[i]? = some v → VR (FAdd F b (.cells c T fz)) v (g i)
  | [], g, h, i, v, hv => by simp [renL, frzX] at hv
  | u :: r, g, h, i, v, hv => by
    cases i with
    | zero =>
      simp only [frzX, renL, List.getElem?_cons_zero, Option.some.injEq] at hv
      subst hv
      exact frzW_r hb hF hl hr u (h 0 _ (by simp [renL]))
    | succ i =>
      simp only [frzX, renL, List.getElem?_cons_succ] at hv
      exact frzX_r hb hF hl hr r (fun j => g (j + 1)) (fun j w hw => h (j + 1) w (by simpa only [renL, List.getElem?_cons_succ] using hw)) i v hv
end
theorem frzOb_r (hb : ρ k = some b) (hF : F b = none) (hl : cs.length ≤ c.size) (hr : ∀ (i : Nat) v, cs[i]? = some v → VR F v (c.getD i undef)) {o : AObj} {x : Obj} (h : OR F (renO ρ o) x) : OR (FAdd F b (.cells c T fz)) (renO ρ (frzOb k cs o)) x := by
  cases o with
  | cells T l n =>
    simp only [renO, frzOb] at h ⊢
    cases h with
    | cells _ _ c' fz' hl' hz hv => exact .cells T _ c' fz' (by simpa [frzX_length] using hl') hz (frzX_r hb hF hl hr l (fun i => c'.getD i undef) hv)
  | map es =>
    simp only [renO, frzOb] at h ⊢
    cases h with
    | map _ xs clock hl' hv hb' hd =>
      refine .map _ xs clock (by simpa using hl') (fun i e y he hy => ?_) hb' hd
      rw [List.getElem?_map, List.getElem?_map] at he
      simp only [Option.map_eq_some_iff] at he
      obtain ⟨e1, ⟨e0, h0, rfl⟩, rfl⟩ := he
      have := hv i (renV ρ e0.1, renV ρ e0.2) y (by rw [List.getElem?_map, h0]; rfl) hy
      exact ⟨frzW_r hb hF hl hr _ this.1, frzW_r hb hF hl hr _ this.2⟩
  | _ => exact h.mono (FAdd_le hF)
end frz
theorem lk_frzM (k : Nat) (cs : List V) : ∀ (m : Fl) (i : Nat), lk (frzM k cs m) i = (lk m i).map (frzW k cs)
  | [], i => rfl
  | (j, v) :: r, i => by
    simp only [frzM, List.map_cons, lk]
    cases Nat.beq i j with
    | true => rfl
    | false => exact lk_frzM k cs r i
theorem ent_frz {ρ : Nat → Option Nat} {k nn : Nat} {T : TypeId} {cs : List V} (hg : good nb ρ nx h) (hk : hget h k = some (.cells T cs nn)) (hd : cs.all dryV1 = true) :
    good nb ρ nx (frzHp k cs (hdel h k)) ∧ Ent (renT ρ m) (renH ρ h ++ hf) (renT ρ (frzM k cs m)) (renH ρ (frzHp k cs (hdel h k)) ++ hf) := by
  have hkeys : ∀ p ∈ frzHp k cs (hdel h k), (ρ p.1).isSome = true := fun p hp => by
    obtain ⟨q, hq, rfl⟩ := List.mem_map.1 hp
    have : q.1 ∈ h.ns := hdel_ns_sub h k _ (List.mem_map.2 ⟨q, hq, rfl⟩)
    obtain ⟨q', hq', e⟩ := List.mem_map.1 this
    simp only
    rw [← e]; exact hg.keys q' hq'
  refine ⟨⟨hg.fresh, hkeys, hg.base⟩, ?_⟩
  intro F w n tm ho hfr
  obtain ⟨b, hb⟩ := Option.isSome_iff_exists.1 (hg.keys _ (hget_mem hk))
  have hk' := hget_ren hk ho.nodup
  rw [ky_eq hb] at hk'
  simp only [renO, dryL1_ren ρ hd] at hk'
  obtain ⟨c, fz, hx, hl, _, _, hr⟩ := own_cells ho hk'
  have hF := ho.off b (hget_ns hk')
  have o1 := ho.freeze (hget_mem hk') hx
  have t1 := Trans.freeze (w := w) (x := Obj.cells c T fz) hF (hget_ns hk')
  have hdl := hdel_ren (ρ := ρ) (hf := hf) hk ho.nodup
  rw [ky_eq hb] at hdl
  rw [hdl] at o1 t1
  have hns : (renH ρ (frzHp k cs (hdel h k)) ++ hf).ns = (renH ρ (hdel h k) ++ hf).ns := by
    rw [Hp.ns_append, Hp.ns_append, renH_ns, renH_ns]
    simp [frzHp, Hp.ns]
  refine ⟨FAdd F b (.cells c T fz), ⟨by rw [hns]; exact o1.nodup, fun b' o' hm => ?_, by rw [hns]; exact o1.off, o1.frz, o1.gl⟩, ⟨hfr.size, fun i v hv => ?_⟩, ⟨t1.mono, t1.size, t1.keep, fun b hb => t1.names b (by rw [← hns]; exact hb), t1.fr, t1.os, t1.tape, t1.output, t1.drn⟩⟩
  · rcases List.mem_append.1 hm with hm | hm
    · obtain ⟨p, hp, e⟩ := List.mem_map.1 hm
      obtain ⟨q, hq, rfl⟩ := List.mem_map.1 hp
      simp only [Prod.mk.injEq] at e
      obtain ⟨rfl, rfl⟩ := e
      have hmem : (ky ρ q.1, renO ρ q.2) ∈ renH ρ (hdel h k) ++ hf := List.mem_append_left _ (List.mem_map.2 ⟨q, hq, rfl⟩)
      rw [← hdl] at hmem
      obtain ⟨x, hx', r⟩ := ho.own _ _ (hdel_mem ho.nodup hmem).2
      exact ⟨x, hx', frzOb_r hb hF hl hr r⟩
    · exact o1.own b' o' (List.mem_append_right _ hm)
  · unfold renT at hv
    rw [lk_frzM] at hv
    simp only [Option.map_eq_some_iff] at hv
    obtain ⟨u1, ⟨u, hu, rfl⟩, rfl⟩ := hv
    obtain ⟨x, hx', r⟩ := hfr.at_ i (renV ρ u) (by simp [renT, hu])
    exact ⟨x, hx', frzW_r hb hF hl hr u r⟩
theorem KnOk.frz (hk : KnOk kn m) (k : Nat) (cs : List V) : KnOk kn (frzM k cs m) := fun i b hi => by rw [lk_frzM, hk i b hi]; rfl
def resL1 (P : Program) (m : Fl) (h : Hp) : ResultVar → Option V
  | .tmp i => lk m i
  | .cell a T => match lk m a with
    | some (.ptr b off) => match hget h b with
      | some (.cells _ cs _) => ldAt P T cs off
      | _ => none
    | _ => none
def resL (P : Program) (m : Fl) (h : Hp) : List ResultVar → Option (List V)
  | [] => some []
  | r :: rs => match resL1 P m h r with
    | some v => match resL P m h rs with
      | some vs => some (v :: vs)
      | none => none
    | none => none
def resA (P : Program) (m : Fl) (h : Hp) (rs : List ResultVar) : Option V := match resL P m h rs with
  | some [v] => some v
  | some vs => some (.tup vs)
  | none => none
theorem resL1_ren {ρ : Nat → Option Nat} {r : ResultVar} {v : V} (ht : vldT ρ m) (hn : (renH ρ h ++ hf).ns.Nodup) (hv : resL1 P m h r = some v) : resV P (renH ρ h ++ hf) (renT ρ m) r = some (renV ρ v) := by
  cases r with
  | tmp i => simp only [resL1] at hv; simp [resV, renT, hv]
  | cell a T =>
    simp only [resL1] at hv
    split at hv
    · rename_i b off ha
      obtain ⟨c, hc⟩ := ht _ _ ha
      split at hv
      · rename_i hg
        have hg' := hget_ren (ρ := ρ) hg hn
        rw [ky_eq hc] at hg'
        simp only [resV, renT, ha, Option.map_some, renV, hc, Option.bind_some, evLoad, hg', renO]
        exact ldAt_ren hv
      · simp at hv
    · simp at hv
theorem resL_ren {ρ : Nat → Option Nat} (ht : vldT ρ m) (hn : (renH ρ h ++ hf).ns.Nodup) : ∀ {rs : List ResultVar} {vs : List V}, resL P m h rs = some vs → resVs P (renH ρ h ++ hf) (renT ρ m) rs = some (renL ρ vs)
  | [], vs, hv => by simp only [resL, Option.some.injEq] at hv; subst hv; rfl
  | r :: rs, vs, hv => by
    simp only [resL] at hv
    split at hv
    · rename_i v e1
      split at hv
      · rename_i vs' e2
        simp only [Option.some.injEq] at hv
        subst hv
        simp only [resVs, resL1_ren ht hn e1, resL_ren ht hn e2, renL]
      · simp at hv
    · simp at hv
theorem resA_ren {ρ : Nat → Option Nat} (ht : vldT ρ m) (hn : (renH ρ h ++ hf).ns.Nodup) {rs : List ResultVar} {v : V} (hv : resA P m h rs = some v) : resAll P rs (renT ρ m) (renH ρ h ++ hf) = some (renV ρ v) := by
  unfold resA at hv
  unfold resAll
  split at hv
  · rename_i u e
    simp only [Option.some.injEq] at hv; subst hv
    rw [resL_ren ht hn e]; rfl
  · rename_i vs hne e
    simp only [Option.some.injEq] at hv; subst hv
    rw [resL_ren ht hn e]
    match vs with
    | [] => rfl
    | [u] => exact absurd rfl (hne u)
    | u :: u2 :: r => rfl
  · simp at hv
inductive FinOk (P : Program) (rs : List ResultVar) (r : V) : Fl → Hp → Prop where
  | done {m : Fl} {h : Hp} (hv : resA P m h rs = some r) (hd : dry r = true) : FinOk P rs r m h
  | weak {m : Fl} {h : Hp} {r0 : V} (hv : resA P m h rs = some r0) (hd : dry r0 = true) (hl : VLe r0 r) : FinOk P rs r m h
  | frz {m : Fl} {h : Hp} (k : Nat) {T : TypeId} {cs : List V} {nn : Nat} (hk : hget h k = some (.cells T cs nn)) (hd : cs.all dryV1 = true) (hr : FinOk P rs r (frzM k cs m) (frzHp k cs (hdel h k))) : FinOk P rs r m h
def dlOk : List Nat → Hp → Prop
  | [], _ => True
  | r :: dl, hf => hget hf r = some .deferred ∧ dlOk dl (hdel hf r)
def RetP (P : Program) (rs : List ResultVar) (r : V) : LPo := fun e m h nx hf dl => (e = .normal ∨ e = .ret) ∧ dlOk dl hf ∧ FinOk P rs r m h
theorem FinOk.sound {rs : List ResultVar} {r : V} {m : Fl} {h : Hp} (hfin : FinOk P rs r m h) {ρ : Nat → Option Nat} {nb nx : Nat} (hg : good nb ρ nx h) : ∃ m2 h2 r0, good nb ρ nx h2 ∧ Ent (renT ρ m) (renH ρ h ++ hf) (renT ρ m2) (renH ρ h2 ++ hf) ∧ resA P m2 h2 rs = some r0 ∧ dry r0 = true ∧ VLe r0 r := by
  induction hfin with
  | done hv hd => exact ⟨_, _, _, hg, Ent.refl _ _, hv, hd, VLe.refl _⟩
  | weak hv hd hl => exact ⟨_, _, _, hg, Ent.refl _ _, hv, hd, hl⟩
  | frz k hk hd hr ih =>
    obtain ⟨g1, e1⟩ := ent_frz (hf := hf) hg hk hd
    obtain ⟨m2, h2, r0, g2, e2, hv, hd2, hl⟩ := ih g1
    exact ⟨m2, h2, r0, g2, e1.trans e2, hv, hd2, hl⟩
theorem hget_right {a b : Hp} {k : Nat} {o : AObj} (hb : hget b k = some o) (hn : (a ++ b).ns.Nodup) : hget (a ++ b) k = some o ∧ hdel (a ++ b) k = a ++ hdel b k := by
  induction a with
  | nil => exact ⟨hb, rfl⟩
  | cons p r ih =>
    simp only [List.cons_append, Hp.ns_cons, List.nodup_cons] at hn
    have hne : p.1 ≠ k := fun e => hn.1 (by rw [e, Hp.ns_append]; exact List.mem_append_right _ (hget_ns hb))
    obtain ⟨h1, h2⟩ := ih hn.2
    simp only [List.cons_append, hget, hdel, if_neg hne]
    exact ⟨h1, by rw [h2]⟩
theorem dlOk_ret {rs : List ResultVar} {Φ : V → Hp → Prop} {t : Fr} {v : V} (a : Hp) (hv : ∀ hf : Hp, (a ++ hf).ns.Nodup → resAll P rs t (a ++ hf) = some v) (hΦ : ∀ h, Φ v h) : ∀ (dl : List Nat) (hf : Hp), (a ++ hf).ns.Nodup → dlOk dl hf → RetOk P rs Φ t dl (a ++ hf)
  | [], hf, hn, _ => ⟨v, hv hf hn, hΦ _⟩
  | r :: dl, hf, hn, hd => by
    obtain ⟨h1, h2⟩ := hget_right hd.1 hn
    refine ⟨h1, ?_⟩
    rw [h2]
    exact dlOk_ret a hv hΦ dl _ (by rw [← h2]; exact hdel_nodup r hn) hd.2
def frm : Nat → List V → Fl
  | _, [] => []
  | k, v :: r => (k, v) :: frm (k + 1) r
theorem lk_frm : ∀ (as : List V) (k i : Nat), k ≤ i → lk (frm k as) i = as[i - k]?
  | [], k, i, _ => by simp [frm, lk]
  | v :: r, k, i, h => by
    simp only [frm, lk]
    cases hb : Nat.beq i k with
    | true => have := Nat.eq_of_beq_eq_true hb; subst this; simp
    | false =>
      have hne : i ≠ k := fun e => by rw [e, Nat.beq_refl] at hb; cases hb
      rw [cond_false, lk_frm r (k + 1) i (by omega)]
      have : i - k = (i - (k + 1)) + 1 := by omega
      rw [this, List.getElem?_cons_succ]
theorem frA_ren {as : List V} (hd : as.all dry = true) (ρ : Nat → Option Nat) : frA as = renT ρ (frm 0 as) := by
  funext i
  simp only [frA, renT, lk_frm as 0 i (Nat.zero_le _), Nat.sub_zero]
  cases h : as[i]? with
  | none => rfl
  | some v => rw [Option.map_some, dry_ren ρ (List.all_eq_true.1 hd v (List.mem_of_getElem? h))]
theorem PTri.of_safe {f : FuncId} {fn : Func} {c : Code} {as : List V} {r : V} (hf : P.funcs[f]? = some fn) (hb : fn.body = some c) {rs : Array ResultVar} (hrs : fn.results = rs) (hn : fn.ntmps = n) (hl : (Nat.ble as.length n && as.all dry) = true)
    (hs : Safe 0 P none n (RetP P rs.toList r) (.code c [] [] (frm 0 as) [] 0 [] [])) : PTri P f as r := by
  simp only [Bool.and_eq_true] at hl
  refine PTri.any ?_
  intro F w av ho ha
  subst hrs
  refine callsIn_of_wp_marks hf hb (FW_fn none f) ?_ rfl
  subst hn
  have hs' := hs knNil (fun _ => none) ⟨fun _ _ => rfl, fun p hp => by simp at hp, Nat.zero_le _⟩
  rw [← frA_ren hl.2] at hs'
  refine wpIn_mono (hs' F w _ ho (frA_r ha (Nat.le_of_ble_eq_true hl.1))) ?_
  rintro e ⟨tm, ds⟩ w' ⟨t', h', dl', F', ⟨ρ', m', h2, nx', hf', a, g, en, q⟩, ho', hf'', hd, tr⟩
  simp only at hd hf''
  subst hd
  obtain ⟨he, hdl, hfin⟩ := q
  obtain ⟨m3, h3, r0, g3, e3, hv, hdr, hle⟩ := hfin.sound (hf := hf') g
  obtain ⟨F2, o2, f2, tr2⟩ := (en.trans e3) F' w' fn.ntmps tm ho' hf''
  have hres : ∀ hf : Hp, (renH ρ' h3 ++ hf).ns.Nodup → resAll P fn.results.toList (renT ρ' m3) (renH ρ' h3 ++ hf) = some r0 := fun hf hn => by rw [resA_ren (vldT_of f2) hn hv, dry_ren ρ' hdr]
  have key := leaves_sound (fn := fn) (Φ := fun v _ => v = r0) (R := fun e w' => ∃ v x h' F', e = .returned x ∧ v = r ∧ Own F' h' w' ∧ VR F' v x ∧ Trans F [] w F' h' w') dl' _ w' (dlOk_ret (Φ := fun v _ => v = r0) _ hres (fun _ => rfl) dl' hf' o2.nodup hdl) o2 f2
    fun v x h4 w4 p o4 q4 tr4 => ⟨r, x, h4, F2, rfl, rfl, o4, hle _ _ (by rw [← p]; exact q4), tr.trans (tr2.trans tr4)⟩
  cases e with
  | normal => exact key
  | ret => exact key
  | _ => rcases he with h | h <;> cases h
end Go.Fw
