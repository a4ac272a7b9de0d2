/- A part of the proof: LwX -/
import Derived.Test.YtijfihbdcdkalaaGreatDoorLwW
set_option linter.all false
set_option linter.unusedSectionVars false
set_option linter.unusedVariables false
set_option linter.unusedSimpArgs false
namespace Go.Fw
variable [Gl]
variable {P : Program} {ρr : Option Nat} {n nb : Nat} {Q : LPo} {arr : Array Oper} {o : Oper} {os : List Oper} {κ : List Kt} {kn : Kn} {m : Fl} {h hf : Hp} {nx : Nat} {dl : List Nat} {fu : Nat} {L : List Nat} {K : KD} {i : Nat}
def DStp (nb : Nat) (P : Program) (ρr : Option Nat) (n : Nat) (arr : Array Oper) (fu : Nat) (L : List Nat) (i : Nat) (o : Oper) (kn : Kn) (m : Fl) (h : Hp) (nx : Nat) (hf : Hp) (K : KD) : Prop :=
  KnOk kn m → ∀ ρ, good nb ρ nx h → (renH ρ h ++ hf).ns.Nodup → vldT ρ m → wStep P ρr n arr o (renT ρ m) (renH ρ h ++ hf) fun t' h' => wA P ρr n arr fu (i :: L) t' h' (liftD nb ρ K)
theorem DS.all {is : List Nat} (hr : rdy arr L = is) (hne : is ≠ []) (hs : ∀ i ∈ is, ∀ o, arr[i]? = some o → DStp nb P ρr n arr fu L i o kn m h nx hf K) : DS nb P ρr n arr (fu + 1) L kn m h nx hf K := by
  intro hk ρ hg hn ht
  rw [wA]
  exact .inr ⟨fun e => absurd (hr.symm.trans e) hne, fun i hi o ho => hs i (by rw [← hr]; exact hi) o ho hk ρ hg hn ht⟩
theorem DS.fork1 {i : Nat} {o : Oper} (hr : (rdy arr L == [i]) = true) (ho : arr.toList[i]? = some o) (h1 : DStp nb P ρr n arr fu L i o kn m h nx hf K) : DS nb P ρr n arr (fu + 1) L kn m h nx hf K := by
  rw [Array.getElem?_toList] at ho
  refine DS.all (by simpa using hr) (by simp) fun j hj oj hoj => ?_
  obtain rfl : j = i := by simpa using hj
  obtain rfl := Option.some.inj (ho.symm.trans hoj)
  exact h1
theorem DS.fork2 {i j : Nat} {o o' : Oper} (hr : (rdy arr L == [i, j]) = true) (ho : arr.toList[i]? = some o) (ho' : arr.toList[j]? = some o') (h1 : DStp nb P ρr n arr fu L i o kn m h nx hf K) (h2 : DStp nb P ρr n arr fu L j o' kn m h nx hf K) : DS nb P ρr n arr (fu + 1) L kn m h nx hf K := by
  rw [Array.getElem?_toList] at ho ho'
  refine DS.all (by simpa using hr) (by simp) fun k hk ok hok => ?_
  simp only [List.mem_cons, List.not_mem_nil, or_false] at hk
  rcases hk with rfl | rfl
  · obtain rfl := Option.some.inj (ho.symm.trans hok); exact h1
  · obtain rfl := Option.some.inj (ho'.symm.trans hok); exact h2
theorem DStp.val {d : Nat} {v : V} (hx : xK P kn m h o = some v) (hr : rdyO arr kn m n o = some d) (hvl : vldB h v = true)
    (hs : DS nb P ρr n arr fu (i :: L) ((d, none) :: kn) ((d, v) :: m) h nx hf K) : DStp nb P ρr n arr fu L i o kn m h nx hf K := by
  intro hk ρ hg hn ht
  obtain ⟨hgd, hd, hlt⟩ := rdyO_run hk hr
  refine wStep.yes (dstOk_of hd hlt) (gd_yes (i := i) (gdL_S hgd)) (WOp_of_evP (by rw [evP_rs]; exact knk_val hk hn ht hx) ?_)
  rw [hd]
  simp only [updO]
  rw [renT_c]
  exact hs (hk.cons fun b hb => by simp at hb) ρ hg hn (ht.cons (hg.vld hvl))
theorem DStp.st {T T' : TypeId} {a x : Operand} {k off nn : Nat} {cs : List V} {v : V} (hop : o.op = .store T a x) (ha : evX m a = some (.ptr k off)) (hx : evX m x = some v) (hg : hget h k = some (.cells T' cs nn)) (hr : gdOk arr kn m o = true)
    (hsz : tsz P T = some (vcells v).length) (hl : Nat.ble (off + (vcells v).length) cs.length = true) (hlf : (vcells v).all leafV = true)
    (hs : DS nb P ρr n arr fu (i :: L) kn m (hset h k (.cells T' (stL cs off (vcells v)) nn)) nx hf K) : DStp nb P ρr n arr fu L i o kn m h nx hf K := by
  intro hk ρ gd hn ht
  obtain ⟨hgd, hd⟩ := gdOk_run hk hr
  obtain ⟨c, hcb⟩ := evX_vld ht ha
  have hg' := hget_ren (ρ := ρ) hg hn
  have ha' := evX_ren (ρ := ρ) ha
  simp only [renV, hcb] at ha'
  rw [ky_eq hcb] at hg'
  have hset' := hset_ren (ρ := ρ) (hf := hf) (o' := .cells T' (stL cs off (vcells v)) nn) hg hn
  rw [ky_eq hcb] at hset'
  have hA : a ∈ o.op.operands.toList := by simp [hop, Op.operands]
  have hX : x ∈ o.op.operands.toList := by simp [hop, Op.operands]
  refine wStep.sem (dstOk_no hd) (gd_yes (i := i) (gdL_S hgd)) ?_
  have key : OpS P ρr n o (rs arr (renT ρ m) o) (renH ρ h ++ hf) fun v h' => wA P ρr n arr fu (i :: L) (updO (renT ρ m) o.dst v) h' (liftD nb ρ K) := by
    refine OpS.store hop (by rw [evO_rs hA]; exact ha') (by rw [evO_rs hX]; exact evX_ren hx) ?_
    simp only [WStore]
    simp only [hg', renO, vcells_ren, renL_length]
    refine ⟨hsz, Nat.le_of_ble_eq_true hl, all_leaf_ren hlf, ?_⟩
    rw [hd]
    simp only [updO]
    simp only [renO] at hset'
    rw [stL_ren, hset']
    refine hs hk ρ (hset_keys gd) ?_ ht
    have : (renH ρ (hset h k (.cells T' (stL cs off (vcells v)) nn)) ++ hf).ns = (renH ρ h ++ hf).ns := by rw [← hset', hset_ns]
    rw [this]; exact hn
  refine OpS.mono key fun v h' hk => ⟨hk, fun e => ?_⟩
  unfold calm at e
  simp [hop] at e
end Go.Fw
namespace Go.Fw
variable [Gl]
mutual
def wdV : V → V
  | .nilslice => .fslice [] 0
  | .fslice l n => .fslice (wdL l) n
  | .fptr l o => .fptr (wdL l) o
  | .agg l => .agg (wdL l)
  | .tup l => .tup (wdL l)
  | v => v
def wdL : List V → List V
  | [] => []
  | v :: r => wdV v :: wdL r
end
theorem wdL_length : ∀ l : List V, (wdL l).length = l.length
  | [] => rfl
  | v :: r => by simp [wdL, wdL_length r]
mutual
theorem wdV_r {F : Froz} : ∀ (v : V) {x : Value}, VR F v x → VR F (wdV v) x
  | .nilslice, x, h => VLe.nils F x h
  | .fslice l n, x, h => by
    rcases h.fslice_inv with ⟨rfl, rfl, rfl⟩ | ⟨a, cap, g, rfl, h1, h2, h3⟩
    · exact .fnil
    · exact .fslice _ _ a cap g h1 (fun i hi => h2 i (by rwa [wdL_length] at hi)) (wdL_r l g h3)
  | .fptr l o, x, h => by
    obtain ⟨a, g, rfl, h2, h3⟩ := h.fptr_inv
    exact .fptr _ _ a g (fun i hi => h2 i (by rwa [wdL_length] at hi)) (wdL_r l g h3)
  | .agg l, x, h => by
    obtain ⟨vs, rfl, hv⟩ := h.agg_inv
    exact .of_agg ⟨by rw [hv.1, wdL_length], wdL_r l (fun i => vs.getD i undef) hv.2⟩
  | .tup l, x, h => by
    obtain ⟨vs, rfl, hv⟩ := h.tup_inv
    exact .of_tup ⟨by rw [hv.1, wdL_length], wdL_r l (fun i => vs.getD i undef) hv.2⟩
  | .ptr _ _, x, h | .slice _ _ _ _, x, h | .clo _ _, x, h | .iface _ _, x, h | .map _, x, h | .int _ _, x, h | .bool _, x, h | .str _, x, h | .flt _ _, x, h | .nilptr, x, h | .eslice, x, h | .nilmap, x, h | .nilfunc, x, h | .yield _, x, h | .niliface, x, h => h
theorem wdL_r {F : Froz} : ∀ (l : List V) (g : Nat → Value), (∀ (i : Nat) v, l[i]? = some v → VR F v (g i)) → ∀ (i : Nat) v, (wdL l)[i]? = some v → VR F v (g i)
  | [], g, h, i, v, hv => by simp [wdL] at hv
  | u :: r, g, h, i, v, hv => by
    cases i with
    | zero =>
      simp only [wdL, List.getElem?_cons_zero, Option.some.injEq] at hv
      subst hv
      exact wdV_r u (h 0 _ rfl)
    | succ i =>
      simp only [wdL, List.getElem?_cons_succ] at hv
      exact wdL_r r (fun j => g (j + 1)) (fun j w hw => h (j + 1) w (by simpa using hw)) i v hv
end
theorem wdE {r0 r : V} (h : wdV r0 = r) : VLe r0 r := fun F x hx => h ▸ wdV_r r0 hx
end Go.Fw
