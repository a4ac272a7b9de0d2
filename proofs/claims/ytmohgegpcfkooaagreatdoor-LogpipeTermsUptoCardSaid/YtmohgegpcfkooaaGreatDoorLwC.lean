/- A part of the proof: LwC -/
import Derived.Test.YtmohgegpcfkooaaGreatDoorLwB
set_option linter.all false
set_option linter.unusedSectionVars false
set_option linter.unusedVariables false
set_option linter.unusedSimpArgs false
namespace Go.Fw
variable [Gl]
variable {P : Program} {ρr : Option Nat} {n nb : Nat}
def RW (P : Program) (ρr : Option Nat) (n : Nat) (arr : Array Oper) (is : List Nat) (t : Fr) (h : Hp) (K : Fr → Hp → Prop) : Prop :=
  ∀ F w tm D (Q : Exit → Act → World → Prop), Own F h w → FrR F n t tm → (∀ t' h' F' w' tm', K t' h' → Own F' h' w' → FrR F' n t' tm' → Trans F h w F' h' w' → Q .normal ⟨tm', D⟩ w') → wpOpsIn (FW ρr) 0 P arr Q is ⟨tm, D⟩ w
def RO (P : Program) (ρr : Option Nat) (n : Nat) (arr : Array Oper) (os : List Oper) (t : Fr) (h : Hp) (K : Fr → Hp → Prop) : Prop :=
  ∀ is : List Nat, is.filterMap (arr[·]?) = os → RW P ρr n arr is t h K
variable {arr : Array Oper} {o : Oper} {os : List Oper} {t : Fr} {h : Hp} {K : Fr → Hp → Prop}
theorem RO.nil (hk : K t h) : RO P ρr n arr [] t h K
  | [], _ => fun F w tm D Q ho hf hq => hq t h F w tm hk ho hf (Trans.refl _ _ _)
  | i :: is, hi => by
    cases ha : arr[i]? with
    | none =>
      simp only [List.filterMap_cons, ha] at hi
      intro F w tm D Q ho hf hq
      simp only [wpOpsIn, ha]
      exact RO.nil hk is hi F w tm D Q ho hf hq
    | some o => simp [List.filterMap_cons, ha] at hi
theorem RO.ent {t' : Fr} {h' : Hp} (e : Ent t h t' h') (hw : RO P ρr n arr os t' h' K) : RO P ρr n arr os t h K := fun is hi F w tm D Q ho hf hq => by
  obtain ⟨F1, o1, f1, tr⟩ := e F w n tm ho hf
  exact hw is hi F1 w tm D Q o1 f1 fun t2 h2 F2 w2 tm2 k2 o2 f2 tr2 => hq t2 h2 F2 w2 tm2 k2 o2 f2 (tr.trans tr2)
theorem RO.mono {K' : Fr → Hp → Prop} (hw : RO P ρr n arr os t h K) (hk : ∀ t h, K t h → K' t h) : RO P ρr n arr os t h K' := fun is hi F w tm D Q ho hf hq =>
  hw is hi F w tm D Q ho hf fun t2 h2 F2 w2 tm2 k2 o2 f2 tr2 => hq t2 h2 F2 w2 tm2 (hk _ _ k2) o2 f2 tr2
def gdS (arr : Array Oper) (t : Fr) (o : Oper) (y : Bool) : Prop := match o.guard with
  | none => y = true
  | some (j, want) => match (arr[j]?).bind (·.dst) with
    | some d => t d = some (.bool (if y = true then want else !want)) ∨ (y = false ∧ ∃ cs, t d = some (.tup cs))
    | none => False
theorem RO.cons {y : Bool} (hg : gdS arr t o y) (hd : dstOk n o) (h1 : y = true → OpS P ρr n o t h fun v h' => RO P ρr n arr os (updO t o.dst v) h' K) (h2 : y = false → RO P ρr n arr os (updO t o.dst (.tup [])) h K) : RO P ρr n arr (o :: os) t h K := by
  intro is
  induction is with
  | nil => intro hi; simp at hi
  | cons i is ih =>
    intro hi
    cases ha : arr[i]? with
    | none =>
      simp only [List.filterMap_cons, ha] at hi
      intro F w tm D Q ho hf hq
      simp only [wpOpsIn, ha]
      exact ih hi F w tm D Q ho hf hq
    | some o' =>
      simp only [List.filterMap_cons, ha, List.cons.injEq] at hi
      obtain ⟨rfl, hi⟩ := hi
      intro F w tm D Q ho hf hk
      simp only [wpOpsIn, ha]
      have main : y = true → Oper.wpIn (FW ρr) 0 P o' ⟨tm, D⟩ w (wpOpsIn (FW ρr) 0 P arr Q is) Q := by
        intro hy
        refine ⟨fun f _ => FW_fn ρr f, h1 hy F w tm D _ Q ho hf ?_⟩
        intro v x h' F' w' hk' ho' hr tr
        obtain ⟨tm', e, hf'⟩ := frR_put (o := o') (hf.mono tr.mono) hd hr (D := D)
        rw [e]
        exact hk' is hi F' w' tm' D Q ho' hf' fun t2 h2 F2 w2 tm2 k2 o2 f2 tr2 => hk t2 h2 F2 w2 tm2 k2 o2 f2 (tr.trans tr2)
      have other : y = false → wpOpsIn (FW ρr) 0 P arr Q is (Act.put ⟨tm, D⟩ o'.dst undef) w := by
        intro hy
        obtain ⟨tm', e, hf'⟩ := frR_put (o := o') hf hd (VR.tup [] #[] rfl (fun i v h => by simp at h)) (D := D)
        have e' : Act.put ⟨tm, D⟩ o'.dst undef = ⟨tm', D⟩ := e
        rw [e']
        exact h2 hy is hi F w tm' D Q ho hf' hk
      unfold gdS at hg
      split at hg
      · rename_i hgd
        rw [if_pos (by simp [Region.wanted, hgd])]
        exact main hg
      · rename_i j want hgd
        split at hg
        · rename_i d hjd
          rcases hg with hb | ⟨hy, cs, hb⟩
          · obtain ⟨x, hx, r⟩ := hf.at_ d _ hb
            obtain rfl := r.bool_inv
            cases y with
            | true =>
              have hyl : yielded arr tm j = some want := by simp [yielded, hjd, hx]
              rw [if_pos (by simp [Region.wanted, hgd, hyl])]
              exact main rfl
            | false =>
              have hyl : yielded arr tm j = some (!want) := by simp [yielded, hjd, hx]
              rw [if_neg (by simp [Region.wanted, hgd, hyl])]
              exact ⟨fun f _ => FW_fn ρr f, other rfl⟩
          · obtain ⟨x, hx, r⟩ := hf.at_ d _ hb
            obtain ⟨vs, rfl, _⟩ := r.tup_inv
            have hyl : yielded arr tm j = none := by simp [yielded, hjd, hx]
            rw [if_neg (by simp [Region.wanted, hgd, hyl])]
            exact ⟨fun f _ => FW_fn ρr f, other hy⟩
        · exact hg.elim
theorem WC.regionO {dl : List Nat} {Q : Po} {id : Nat} (hw : RO P ρr n arr arr.toList t h fun t' h' => Q .normal t' h' dl) : WC P ρr n (.region id arr false) t h dl Q := by
  intro F w tm ho hf
  refine wpIn_region (hw (List.range arr.size) (range_ops arr) F w tm (mks dl) _ ho hf ?_)
  intro t' h' F' w' tm' hk ho' hf' tr
  exact ⟨t', h', dl, F', hk, ho', hf', rfl, tr⟩
end Go.Fw
