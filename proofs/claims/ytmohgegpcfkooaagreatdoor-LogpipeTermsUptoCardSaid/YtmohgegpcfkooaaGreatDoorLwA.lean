/- A part of the proof: LwA -/
import Derived.Test.YtmohgegpcfkooaaGreatDoorFwAA
set_option linter.all false
set_option linter.unusedSectionVars false
set_option linter.unusedVariables false
set_option linter.unusedSimpArgs false
namespace Go.Fw
variable [Gl]
def imp : V := .slice 0 0 1 0
theorem imp_no {F : Froz} {x : Value} (h : VR F imp x) : False := by have := h.slice_le; omega
mutual
def renV (ρ : Nat → Option Nat) : V → V
  | .ptr b o => match ρ b with
    | some c => .ptr c o
    | none => imp
  | .slice b o l k => match ρ b with
    | some c => .slice c o l k
    | none => imp
  | .map b => match ρ b with
    | some c => .map c
    | none => imp
  | .clo f cs => .clo f (renL ρ cs)
  | .iface t v => .iface t (renV ρ v)
  | .agg cs => .agg (renL ρ cs)
  | .tup cs => .tup (renL ρ cs)
  | v => v
def renL (ρ : Nat → Option Nat) : List V → List V
  | [] => []
  | v :: r => renV ρ v :: renL ρ r
end
theorem renL_map (ρ : Nat → Option Nat) : ∀ l : List V, renL ρ l = l.map (renV ρ)
  | [] => by simp [renL]
  | v :: r => by simp [renL, renL_map ρ r]
@[simp] theorem renL_length (ρ : Nat → Option Nat) (l : List V) : (renL ρ l).length = l.length := by simp [renL_map]
theorem renL_get (ρ : Nat → Option Nat) (l : List V) (i : Nat) : (renL ρ l)[i]? = (l[i]?).map (renV ρ) := by simp [renL_map]
theorem renL_take (ρ : Nat → Option Nat) (l : List V) (i : Nat) : (renL ρ l).take i = renL ρ (l.take i) := by simp [renL_map, List.map_take]
theorem renL_drop (ρ : Nat → Option Nat) (l : List V) (i : Nat) : (renL ρ l).drop i = renL ρ (l.drop i) := by simp [renL_map, List.map_drop]
theorem renL_append (ρ : Nat → Option Nat) (a b : List V) : renL ρ (a ++ b) = renL ρ a ++ renL ρ b := by simp [renL_map]
theorem renL_set (ρ : Nat → Option Nat) (l : List V) (i : Nat) (v : V) : (renL ρ l).set i (renV ρ v) = renL ρ (l.set i v) := by simp [renL_map, List.map_set]
def dryV0 : V → Bool
  | .ptr _ _ | .slice _ _ _ _ | .map _ | .clo _ _ | .iface _ _ | .agg _ | .tup _ => false
  | _ => true
def dryV1 : V → Bool
  | .ptr _ _ | .slice _ _ _ _ | .map _ | .iface _ _ | .agg _ | .tup _ => false
  | .clo _ cs => cs.all dryV0
  | _ => true
def dry : V → Bool
  | .ptr _ _ | .slice _ _ _ _ | .map _ => false
  | .clo _ cs => cs.all dryV1
  | .iface _ v => dryV1 v
  | .agg cs => cs.all dryV1
  | .tup cs => cs.all fun v => match v with
    | .agg l => l.all dryV1
    | v => dryV1 v
  | _ => true
theorem dryV0_ren (ρ : Nat → Option Nat) {v : V} (h : dryV0 v = true) : renV ρ v = v := by cases v <;> simp_all [dryV0, renV]
theorem dryL0_ren (ρ : Nat → Option Nat) {l : List V} (h : l.all dryV0 = true) : renL ρ l = l := by
  rw [renL_map]
  conv => rhs; rw [← List.map_id l]
  exact List.map_congr_left fun v hv => dryV0_ren ρ (List.all_eq_true.1 h v hv)
theorem dryV0_1 {v : V} (h : dryV0 v = true) : dryV1 v = true := by cases v <;> simp_all [dryV0, dryV1]
theorem dryL0_1 {l : List V} (h : l.all dryV0 = true) : l.all dryV1 = true := List.all_eq_true.2 fun v hv => dryV0_1 (List.all_eq_true.1 h v hv)
theorem dryV1_ren (ρ : Nat → Option Nat) {v : V} (h : dryV1 v = true) : renV ρ v = v := by
  cases v with
  | clo f cs => simp only [dryV1] at h; rw [renV, dryL0_ren ρ h]
  | _ => simp_all [dryV1, renV]
theorem dryL1_ren (ρ : Nat → Option Nat) {l : List V} (h : l.all dryV1 = true) : renL ρ l = l := by
  rw [renL_map]
  conv => rhs; rw [← List.map_id l]
  exact List.map_congr_left fun v hv => dryV1_ren ρ (List.all_eq_true.1 h v hv)
theorem dry_ren (ρ : Nat → Option Nat) {v : V} (h : dry v = true) : renV ρ v = v := by
  cases v with
  | clo f cs => simp only [dry] at h; rw [renV, dryL1_ren ρ h]
  | iface t v => simp only [dry] at h; rw [renV, dryV1_ren ρ h]
  | agg cs => simp only [dry] at h; rw [renV, dryL1_ren ρ h]
  | tup cs =>
    simp only [dry] at h
    rw [renV, renL_map]
    congr 1
    conv => rhs; rw [← List.map_id cs]
    refine List.map_congr_left fun v hv => ?_
    have h1 := List.all_eq_true.1 h v hv
    cases v with
    | agg l => rw [renV, dryL1_ren ρ h1]; rfl
    | _ => exact dryV1_ren ρ h1
  | _ => simp_all [dry, renV]
theorem dryL_ren (ρ : Nat → Option Nat) {l : List V} (h : l.all dry = true) : renL ρ l = l := by
  rw [renL_map]
  conv => rhs; rw [← List.map_id l]
  exact List.map_congr_left fun v hv => dry_ren ρ (List.all_eq_true.1 h v hv)
def renO (ρ : Nat → Option Nat) : AObj → AObj
  | .cells T cs n => .cells T (renL ρ cs) n
  | .map es => .map (es.map fun e => (renV ρ e.1, renV ρ e.2))
  | o => o
def ky (ρ : Nat → Option Nat) (k : Nat) : Nat := (ρ k).getD 0
def renH (ρ : Nat → Option Nat) (h : Hp) : Hp := h.map fun p => (ky ρ p.1, renO ρ p.2)
@[simp] theorem renH_nil (ρ : Nat → Option Nat) : renH ρ [] = [] := rfl
@[simp] theorem renH_cons (ρ : Nat → Option Nat) (p : Nat × AObj) (h : Hp) : renH ρ (p :: h) = (ky ρ p.1, renO ρ p.2) :: renH ρ h := rfl
theorem renH_app (ρ : Nat → Option Nat) (a b : Hp) : renH ρ (a ++ b) = renH ρ a ++ renH ρ b := by simp [renH]
theorem renH_ns (ρ : Nat → Option Nat) (h : Hp) : (renH ρ h).ns = h.ns.map (ky ρ) := by simp [renH, Hp.ns]
theorem hget_ren {ρ : Nat → Option Nat} {hf : Hp} : ∀ {h : Hp} {k : Nat} {o : AObj}, hget h k = some o → (renH ρ h ++ hf).ns.Nodup → hget (renH ρ h ++ hf) (ky ρ k) = some (renO ρ o)
  | [], k, o, h, _ => by simp [hget] at h
  | p :: r, k, o, h, hn => by
    simp only [hget] at h
    simp only [renH_cons, List.cons_append, Hp.ns_cons, List.nodup_cons] at hn
    simp only [renH_cons, List.cons_append, hget]
    split at h
    · rename_i e
      simp only [Option.some.injEq] at h
      subst e; subst h
      rw [if_pos rfl]
    · rename_i e
      have hm : ky ρ k ∈ (renH ρ r ++ hf).ns := by
        rw [Hp.ns_append, renH_ns]
        exact List.mem_append_left _ (List.mem_map_of_mem (hget_ns h))
      rw [if_neg (fun e' => hn.1 (by rw [e']; exact hm))]
      exact hget_ren h hn.2
theorem hset_ren {ρ : Nat → Option Nat} {hf : Hp} {o' : AObj} : ∀ {h : Hp} {k : Nat} {o : AObj}, hget h k = some o → (renH ρ h ++ hf).ns.Nodup → hset (renH ρ h ++ hf) (ky ρ k) (renO ρ o') = renH ρ (hset h k o') ++ hf
  | [], k, o, h, _ => by simp [hget] at h
  | p :: r, k, o, h, hn => by
    simp only [hget] at h
    simp only [renH_cons, List.cons_append, Hp.ns_cons, List.nodup_cons] at hn
    simp only [renH_cons, List.cons_append, hset]
    split at h
    · rename_i e
      subst e
      rw [if_pos rfl, if_pos rfl]; rfl
    · rename_i e
      have hm : ky ρ k ∈ (renH ρ r ++ hf).ns := by
        rw [Hp.ns_append, renH_ns]
        exact List.mem_append_left _ (List.mem_map_of_mem (hget_ns h))
      rw [if_neg (fun e' => hn.1 (by rw [e']; exact hm)), if_neg e, hset_ren h hn.2]
      rfl
theorem hdel_ren {ρ : Nat → Option Nat} {hf : Hp} : ∀ {h : Hp} {k : Nat} {o : AObj}, hget h k = some o → (renH ρ h ++ hf).ns.Nodup → hdel (renH ρ h ++ hf) (ky ρ k) = renH ρ (hdel h k) ++ hf
  | [], k, o, h, _ => by simp [hget] at h
  | p :: r, k, o, h, hn => by
    simp only [hget] at h
    simp only [renH_cons, List.cons_append, Hp.ns_cons, List.nodup_cons] at hn
    simp only [renH_cons, List.cons_append, hdel]
    split at h
    · rename_i e
      subst e
      rw [if_pos rfl, if_pos rfl]
    · rename_i e
      have hm : ky ρ k ∈ (renH ρ r ++ hf).ns := by
        rw [Hp.ns_append, renH_ns]
        exact List.mem_append_left _ (List.mem_map_of_mem (hget_ns h))
      rw [if_neg (fun e' => hn.1 (by rw [e']; exact hm)), if_neg e, hdel_ren h hn.2]
      rfl
abbrev Fl := List (Nat × V)
def lk : Fl → Nat → Option V
  | [], _ => none
  | (j, v) :: r, i => bif Nat.beq i j then some v else lk r i
def renT (ρ : Nat → Option Nat) (m : Fl) : Fr := fun i => (lk m i).map (renV ρ)
theorem renT_cons (ρ : Nat → Option Nat) (m : Fl) (d : Nat) (v : V) : renT ρ ((d, v) :: m) = upd (renT ρ m) d (renV ρ v) := by
  funext i
  unfold renT upd
  simp only [lk]
  by_cases h : i = d
  · have : Nat.beq i d = true := by simp [h]
    rw [this, if_pos h]; rfl
  · have : Nat.beq i d = false := by cases hb : Nat.beq i d with
      | false => rfl
      | true => exact absurd (Nat.eq_of_beq_eq_true hb) h
    rw [this, if_neg h]; rfl
def evX (m : Fl) : Operand → Option V
  | .tmp i => lk m i
  | .const x => ofConst x
  | .func f => some (.clo f [])
  | .global _ => none
theorem ofLeaf_dry {x : Value} {v : V} (h : ofLeaf x = some v) : dryV1 v = true := by
  unfold ofLeaf at h
  split at h <;> first | (simp only [Option.some.injEq] at h; subst h; rfl) | (simp at h; done)
theorem ofLeaves_dry : ∀ {xs : List Value} {vs : List V}, ofLeaves xs = some vs → vs.all dryV1 = true
  | [], vs, h => by simp only [ofLeaves, Option.some.injEq] at h; subst h; rfl
  | x :: r, vs, h => by
    simp only [ofLeaves] at h
    split at h
    · rename_i v vs' e1 e2
      simp only [Option.some.injEq] at h
      subst h
      simp [ofLeaf_dry e1, ofLeaves_dry e2]
    · simp at h
theorem dry1_dry {v : V} (h : dryV1 v = true) : dry v = true := by
  cases v with
  | clo f cs => exact dryL0_1 h
  | _ => simp_all [dryV1, dry]
theorem ofConst_dry {x : Value} {v : V} (h : ofConst x = some v) : dry v = true := by
  unfold ofConst at h
  split at h
  · simp only [Option.map_eq_some_iff] at h
    obtain ⟨l, hl, rfl⟩ := h
    exact ofLeaves_dry hl
  · simp only [Option.map_eq_some_iff] at h
    obtain ⟨l, hl, rfl⟩ := h
    simp only [dry, List.all_eq_true]
    intro v hv
    have := List.all_eq_true.1 (ofLeaves_dry hl) v hv
    cases v <;> simp_all [dryV1]
  · exact dry1_dry (ofLeaf_dry h)
variable {ρ : Nat → Option Nat} {m : Fl}
theorem evX_ren {x : Operand} {v : V} (h : evX m x = some v) : evO (renT ρ m) x = some (renV ρ v) := by
  cases x with
  | tmp i => simp only [evX] at h; simp [evO, renT, h]
  | const x => simp only [evX] at h; simp only [evO]; rw [h, dry_ren ρ (ofConst_dry h)]
  | func f => simp only [evX, Option.some.injEq] at h; subst h; rfl
  | global g => simp [evX] at h
def evXs (m : Fl) : List Operand → Option (List V)
  | [] => some []
  | x :: r => match evX m x with
    | some v => match evXs m r with
      | some vs => some (v :: vs)
      | none => none
    | none => none
theorem evXs_ren : ∀ {xs : List Operand} {vs : List V}, evXs m xs = some vs → evOs (renT ρ m) xs = some (renL ρ vs)
  | [], vs, h => by simp only [evXs, Option.some.injEq] at h; subst h; rfl
  | x :: r, vs, h => by
    simp only [evXs] at h
    split at h
    · rename_i v e1
      split at h
      · rename_i vs' e2
        simp only [Option.some.injEq] at h
        subst h
        simp only [evOs, evX_ren e1, evXs_ren e2, renL]
      · simp at h
    · simp at h
def evXp (m : Fl) : List (Nat × Operand) → Option (List (Nat × V))
  | [] => some []
  | (i, x) :: r => match evX m x with
    | some v => match evXp m r with
      | some vs => some ((i, v) :: vs)
      | none => none
    | none => none
theorem evXp_ren : ∀ {xs : List (Nat × Operand)} {vs : List (Nat × V)}, evXp m xs = some vs → evParts (renT ρ m) xs = some (vs.map fun p => (p.1, renV ρ p.2))
  | [], vs, h => by simp only [evXp, Option.some.injEq] at h; subst h; rfl
  | (i, x) :: r, vs, h => by
    simp only [evXp] at h
    split at h
    · rename_i v e1
      split at h
      · rename_i vs' e2
        simp only [Option.some.injEq] at h
        subst h
        simp only [evParts, evX_ren e1, evXp_ren e2, List.map_cons]
      · simp at h
    · simp at h
variable {P : Program}
theorem ldAt_ren {T : TypeId} {cs : List V} {o : Nat} {v : V} (h : ldAt P T cs o = some v) : ldAt P T (renL ρ cs) o = some (renV ρ v) := by
  unfold ldAt at h ⊢
  split at h
  · rename_i ht
    split at h
    · split at h
      · rename_i hl
        simp only [Option.some.injEq] at h
        subst h
        rw [if_pos (by simpa using hl), renL_drop, renL_take, renV]
      · simp at h
    · simp at h
  · rename_i ht
    rw [renL_get, h]; rfl
  · simp at h
theorem evPart_ren {T : TypeId} {cs : List V} {o : Nat} {v : V} (h : evPart P T cs o = some v) : evPart P T (renL ρ cs) o = some (renV ρ v) := by
  have h1 : evPart P T cs o = ldAt P T cs o := rfl
  have h2 : evPart P T (renL ρ cs) o = ldAt P T (renL ρ cs) o := rfl
  rw [h2]; rw [h1] at h; exact ldAt_ren h
theorem vcells_ren (v : V) : vcells (renV ρ v) = renL ρ (vcells v) := by
  cases v with
  | ptr b o => simp only [vcells, renV, renL]; cases ρ b <;> rfl
  | slice b o l k => simp only [vcells, renV, renL]; cases ρ b <;> rfl
  | map b => simp only [vcells, renV, renL]; cases ρ b <;> rfl
  | _ => simp [vcells, renV, renL]
theorem putL_ren (cs vs : List V) (o : Nat) : putL (renL ρ cs) o (renL ρ vs) = renL ρ (putL cs o vs) := by
  unfold putL
  rw [renL_take, renL_append, renL_append, ← renL_drop, renL_length]
theorem evFill_ren {pl : Nat → Option (Nat × Nat)} : ∀ {ps : List (Nat × V)} {cs out : List V}, evFill pl cs ps = some out → evFill pl (renL ρ cs) (ps.map fun p => (p.1, renV ρ p.2)) = some (renL ρ out)
  | [], cs, out, h => by simp only [evFill, Option.some.injEq] at h; subst h; rfl
  | (i, v) :: r, cs, out, h => by
    simp only [evFill] at h
    simp only [List.map_cons, evFill]
    split at h
    · split at h
      · rename_i hc
        rw [vcells_ren, if_pos (by simpa using hc), putL_ren]
        exact evFill_ren h
      · simp at h
    · simp at h
def vld (ρ : Nat → Option Nat) : V → Prop
  | .ptr b _ | .slice b _ _ _ | .map b => ∃ c, ρ b = some c
  | _ => True
theorem vld_of {F : Froz} {v : V} {x : Value} (h : VR F (renV ρ v) x) : vld ρ v := by
  cases v <;> simp only [vld] <;> (simp only [renV] at h; split at h <;> first | exact ⟨_, by assumption⟩ | exact (imp_no h).elim)
def rle (ρ ρ' : Nat → Option Nat) : Prop := ∀ k c, ρ k = some c → ρ' k = some c
mutual
theorem renV_le {ρ ρ' : Nat → Option Nat} (hr : rle ρ ρ') {F : Froz} : ∀ (v : V) {x : Value}, VR F (renV ρ v) x → VR F (renV ρ' v) x
  | .ptr b o, x, h => by
    simp only [renV] at h ⊢
    split at h
    · rename_i c e; rw [hr _ _ e]; exact h
    · exact (imp_no h).elim
  | .slice b o l k, x, h => by
    simp only [renV] at h ⊢
    split at h
    · rename_i c e; rw [hr _ _ e]; exact h
    · exact (imp_no h).elim
  | .map b, x, h => by
    simp only [renV] at h ⊢
    split at h
    · rename_i c e; rw [hr _ _ e]; exact h
    · exact (imp_no h).elim
  | .clo f cs, x, h => by
    simp only [renV] at h ⊢
    obtain ⟨vs, rfl, hv⟩ := h.clo_inv
    exact .of_clo ⟨by rw [hv.1]; simp, renL_le hr cs (fun i => vs.getD i undef) hv.2⟩
  | .iface t v, x, h => by
    simp only [renV] at h ⊢
    obtain ⟨y, rfl, hy⟩ := h.iface_inv
    exact .iface _ _ _ (renV_le hr v hy)
  | .agg cs, x, h => by
    simp only [renV] at h ⊢
    obtain ⟨vs, rfl, hv⟩ := h.agg_inv
    exact .of_agg ⟨by rw [hv.1]; simp, renL_le hr cs (fun i => vs.getD i undef) hv.2⟩
  | .tup cs, x, h => by
    simp only [renV] at h ⊢
    obtain ⟨vs, rfl, hv⟩ := h.tup_inv
    exact .of_tup ⟨by rw [hv.1]; simp, renL_le hr cs (fun i => vs.getD i undef) hv.2⟩
  | .int _ _, x, h | .bool _, x, h | .str _, x, h | .flt _ _, x, h | .nilptr, x, h | .fptr _ _, x, h | .nilslice, x, h | .fslice _ _, x, h | .eslice, x, h | .nilmap, x, h | .nilfunc, x, h | .yield _, x, h | .niliface, x, h => by
    simpa only [renV] using h
theorem renL_le {ρ ρ' : Nat → Option Nat} (hr : rle ρ ρ') {F : Froz} : ∀ (l : List V) (g : Nat → Value), (∀ (i : Nat) v, (renL ρ l)[i]? = some v → VR F v (g i)) → ∀ (i : Nat) v, (renL ρ' l)[i]? = some v → VR F v (g i)
  | [], g, h, i, v, hv => by simp [renL] at hv
  | u :: r, g, h, i, v, hv => by
    cases i with
    | zero =>
      simp only [renL, List.getElem?_cons_zero, Option.some.injEq] at hv
      subst hv
      exact renV_le hr u (h 0 _ (by simp [renL]))
    | succ i =>
      simp only [renL, List.getElem?_cons_succ] at hv
      exact renL_le hr r (fun j => g (j + 1)) (fun j w hw => h (j + 1) w (by simpa only [renL, List.getElem?_cons_succ] using hw)) i v hv
end
theorem ky_eq {ρ : Nat → Option Nat} {k c : Nat} (h : ρ k = some c) : ky ρ k = c := by simp [ky, h]
theorem renO_le {ρ ρ' : Nat → Option Nat} (hr : rle ρ ρ') {F : Froz} {o : AObj} {x : Obj} (h : OR F (renO ρ o) x) : OR F (renO ρ' o) x := by
  cases o with
  | cells T cs n =>
    simp only [renO] at h ⊢
    cases h with
    | cells _ _ c fz hl hz hv => exact .cells T _ c fz (by simpa using hl) hz (renL_le hr cs (fun i => c.getD i undef) hv)
  | map es =>
    simp only [renO] at h ⊢
    cases h with
    | map _ xs clock hl hv hb hd =>
      refine .map _ xs clock (by simpa using hl) (fun i e y he hy => ?_) hb hd
      rw [List.getElem?_map] at he
      simp only [Option.map_eq_some_iff] at he
      obtain ⟨e0, h0, rfl⟩ := he
      have := hv i (renV ρ e0.1, renV ρ e0.2) y (by rw [List.getElem?_map, h0]; rfl) hy
      exact ⟨renV_le hr _ this.1, renV_le hr _ this.2⟩
  | _ => simpa only [renO] using h
theorem ky_le {ρ ρ' : Nat → Option Nat} (hr : rle ρ ρ') {k : Nat} (h : (ρ k).isSome = true) : ky ρ' k = ky ρ k := by
  obtain ⟨c, hc⟩ := Option.isSome_iff_exists.1 h
  simp [ky, hc, hr _ _ hc]
def keysOk (ρ : Nat → Option Nat) (h : Hp) : Prop := ∀ p ∈ h, (ρ p.1).isSome = true
theorem renH_ns_le {ρ ρ' : Nat → Option Nat} (hr : rle ρ ρ') {h : Hp} (hk : keysOk ρ h) : (renH ρ' h).ns = (renH ρ h).ns := by
  rw [renH_ns, renH_ns]
  refine List.map_congr_left fun k hk' => ?_
  obtain ⟨p, hp, rfl⟩ := List.mem_map.1 hk'
  exact ky_le hr (hk p hp)
end Go.Fw
