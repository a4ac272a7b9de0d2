/- A part of the proof: FwP -/
import Derived.Test.YtmohgegpcfkooaaGreatDoorFwN
import Derived.OrdersIn
set_option linter.all false
set_option linter.unusedSectionVars false
set_option linter.unusedVariables false
set_option linter.unusedSimpArgs false
namespace Go.Fw
variable [Gl]
variable {P : Program} {ρ : Option Nat} {n : Nat} {ops : Array Oper} {t : Fr} {h : Hp} {K : Fr → Hp → Prop}
def rs (ops : Array Oper) (t : Fr) (o : Oper) : Fr := fun i => if (o.looksAt ops).contains i = true then t i else none
def agree (l : List Nat) (t t' : Fr) : Prop := ∀ i, l.contains i = true → t i = t' i
theorem rs_agree {o : Oper} {t' : Fr} (ha : agree (o.looksAt ops) t t') : rs ops t o = rs ops t' o := by
  funext i
  unfold rs
  split
  · rename_i hi; exact ha i hi
  · rfl
def calm (o : Oper) : Bool := match o.op with
  | .alloc _ | .box _ _ | .buildSlice _ _ _ => true
  | .move _ | .assign _ | .pick _ _ _ | .load _ _ | .nilCheck _ | .unOp _ _ _ | .makeFunc _ _ _ | .slice _ _ _ _ _ | .fieldAddr _ _ _ | .field _ _ _ | .indexAddr _ _ _ | .index _ _ _ | .extract _ _ | .build _ _ => true
  | .binOp op _ _ _ _ => match op with
    | .eql | .neq => false
    | _ => true
  | .call c => match c.callee with
    | .builtin .len | .builtin .min | .builtin .max => true
    | _ => false
  | _ => false
def hle (h h' : Hp) : Prop := ∀ b o, hget h b = some o → hget h' b = some o
theorem hle.refl (h : Hp) : hle h h := fun _ _ => id
theorem hle.trans {h h' h'' : Hp} (a : hle h h') (b : hle h' h'') : hle h h'' := fun x o e => b x o (a x o e)
def WOpQ (P : Program) (ρ : Option Nat) (n : Nat) (o : Oper) (t : Fr) (h : Hp) (K : V → Hp → Prop) : Prop := OpS P ρ n o t h fun v h' => K v h' ∧ (calm o = true → hle h h')
def wStep (P : Program) (ρ : Option Nat) (n : Nat) (ops : Array Oper) (o : Oper) (t : Fr) (h : Hp) (K : Fr → Hp → Prop) : Prop := dstOk n o ∧ match o.guard with
  | none => WOpQ P ρ n o (rs ops t o) h fun v h' => K (updO t o.dst v) h'
  | some (j, want) => match (ops[j]?).bind (·.dst) with
    | some d => match t d with
      | some (.bool b) => (b = want → WOpQ P ρ n o (rs ops t o) h fun v h' => K (updO t o.dst v) h') ∧ (b = !want → K (updO t o.dst (.tup [])) h)
      | some (.tup _) => K (updO t o.dst (.tup [])) h
      | _ => False
    | none => False
theorem guard_looks {o : Oper} {j d : Nat} {want : Bool} (hg : o.guard = some (j, want)) (hj : (ops[j]?).bind (·.dst) = some d) : (o.looksAt ops).contains d = true := by
  simp [Oper.looksAt, hg, hj]
theorem WOp_mono {o : Oper} {K K' : V → Hp → Prop} (hw : WOp P ρ n o t h K) (hk : ∀ v h', K v h' → K' v h') : WOp P ρ n o t h K' := by
  unfold WOp at hw ⊢
  split at hw <;> try simp only at hw ⊢
  all_goals first
    | exact OpS.mono hw hk
    | skip
  · split at hw
    · exact fun b hb => hk _ _ (hw b hb)
    · exact hw.elim
  · split at hw
    · exact fun b hb => hk _ _ (hw b hb)
    · exact hw.elim
  · split at hw
    · rename_i e he
      split at hw
      · rename_i e1 e2 e3
        split at hw
        · exact ⟨hw.1, hw.2.1, fun b hb => hk _ _ (hw.2.2 b hb)⟩
        · exact hw.elim
      · exact hw.elim
    · exact hw.elim
  · split at hw
    · rename_i e1 e2
      unfold WStore at hw ⊢
      split at hw
      · split at hw
        · exact ⟨hw.1, hw.2.1, hw.2.2.1, hk _ _ hw.2.2.2⟩
        · exact hw.elim
      · exact hw.elim
    · exact hw.elim
  · split at hw
    · rename_i bs hx
      split at hw
      · rename_i hd
        rw [if_pos hd]
        split at hw
        · rename_i hs; rw [if_pos hs]; exact hk _ _ hw
        · exact hw.elim
      · rename_i hd; rw [if_neg hd]; exact OpS.mono hw hk
    · split at hw
      · exact hk _ _ hw
      · exact hw.elim
    · exact hw.elim
  · split at hw
    · split at hw
      · exact CallS.mono hw hk
      · exact YieldS.mono hw hk
      · exact hw.elim
    all_goals first
      | exact OpS.mono hw hk
      | (split at hw
         · exact hk _ _ hw
         · exact hw.elim)
  · split at hw
    · exact hk _ _ hw
    · exact OpS.mono hw hk
  · split at hw
    · exact hk _ _ hw
    · exact OpS.mono hw hk
  · split at hw
    · exact hk _ _ hw
    · exact hw.elim
theorem hle_push {h0 : Hp} {b : Nat} {o : AObj} (hs : hle h0 h) (hb : b ∉ h.ns) : hle h0 ((b, o) :: h) := fun b' o' hg => by
  have := hs b' o' hg
  simp only [hget]
  rw [if_neg]
  · exact this
  · rintro rfl
    exact hb (mem_ns (hget_mem this))
theorem WOp_calm {o : Oper} {K : V → Hp → Prop} {h0 : Hp} (hc : calm o = true) (hs : hle h0 h) (hw : WOp P ρ n o t h K) : WOp P ρ n o t h fun v h' => K v h' ∧ hle h0 h' := by
  unfold calm at hc
  split at hc
  · rename_i T hop
    simp only [WOp, hop] at hw ⊢
    split at hw
    · exact fun b hb => ⟨hw b hb, hle_push hs hb⟩
    · exact hw.elim
  · rename_i T x hop
    simp only [WOp, hop] at hw ⊢
    split at hw
    · exact fun b hb => ⟨hw b hb, hle_push hs hb⟩
    · exact hw.elim
  · rename_i T l ps hop
    simp only [WOp, hop] at hw ⊢
    split at hw
    · split at hw
      · split at hw
        · exact ⟨hw.1, hw.2.1, fun b hb => ⟨hw.2.2 b hb, hle_push hs hb⟩⟩
        · exact hw.elim
      · exact hw.elim
    · exact hw.elim
  all_goals first
    | (rename_i hop; simp only [WOp, hop] at hw ⊢; split at hw
       · exact ⟨hw, hs⟩
       · exact hw.elim)
    | skip
  · rename_i op T x y U hop
    split at hc
    · simp at hc
    · simp at hc
    · rename_i hne1 hne2
      cases op <;> first
        | exact absurd rfl hne1
        | exact absurd rfl hne2
        | (simp only [WOp, hop] at hw ⊢; split at hw
           · exact ⟨hw, hs⟩
           · exact hw.elim)
  · rename_i c hop
    split at hc
    all_goals first
      | (rename_i hcal; simp only [WOp, hop, hcal] at hw ⊢; split at hw
         · exact ⟨hw, hs⟩
         · exact hw.elim)
      | exact absurd hc (by simp)
  · simp at hc
theorem WOpQ_mono {o : Oper} {K K' : V → Hp → Prop} (hw : WOpQ P ρ n o t h K) (hk : ∀ v h', K v h' → K' v h') : WOpQ P ρ n o t h K' := OpS.mono hw fun v h' e => ⟨hk _ _ e.1, e.2⟩
theorem WOp.q {o : Oper} {K : V → Hp → Prop} (hw : WOp P ρ n o t h K) : WOpQ P ρ n o t h K := by
  cases hc : calm o with
  | true => exact ((WOp_calm hc (hle.refl h) hw).sound).mono fun v h' e => ⟨e.1, fun _ => e.2⟩
  | false => exact hw.sound.mono fun v h' e => ⟨e, fun e => by rw [hc] at e; cases e⟩
theorem wStep.local {o : Oper} {t2 : Fr} {K2 : Fr → Hp → Prop} (hw : wStep P ρ n ops o t h K) (ha : agree (o.looksAt ops) t t2) (hk : ∀ v h', K (updO t o.dst v) h' → K2 (updO t2 o.dst v) h') : wStep P ρ n ops o t2 h K2 := by
  refine ⟨hw.1, ?_⟩
  have hw := hw.2
  split at hw
  · rename_i hg
    rw [← rs_agree ha]
    exact WOpQ_mono hw hk
  · rename_i j want hg
    split at hw
    · rename_i d hj
      have hd := ha d (guard_looks hg hj)
      split at hw
      · rename_i b hb
        rw [← hd, hb]
        refine ⟨fun e => ?_, fun e => hk _ _ (hw.2 e)⟩
        rw [← rs_agree ha]
        exact WOpQ_mono (hw.1 e) hk
      · rename_i cs hb
        rw [← hd, hb]
        exact hk _ _ hw
      · exact hw.elim
    · exact hw.elim
theorem wStep.mono {o : Oper} {K2 : Fr → Hp → Prop} (hw : wStep P ρ n ops o t h K) (hk : ∀ t h, K t h → K2 t h) : wStep P ρ n ops o t h K2 :=
  hw.local (fun _ _ => rfl) fun _ _ => hk _ _
def descs (ops : Array Oper) (i : Nat) : List Nat :=
  (List.range ops.size).foldl (fun D j => match ops[j]? with
    | some o => match o.after.any fun e => Region.binds .any e && (e.on == i || D.contains e.on) with
      | true => j :: D
      | false => D
    | none => D) []
def rdy (ops : Array Oper) (L : List Nat) : List Nat :=
  (List.range ops.size).filter fun i => !L.contains i && ((ops[i]?).map (·.after.all fun e => !Region.binds .any e || L.contains e.on)).getD false
def lst (ops : Array Oper) (listed : Array Bool) (L : List Nat) : Prop := listed.size = ops.size ∧ (∀ i, listed[i]? = if i < ops.size then some (L.contains i) else none) ∧ ∀ i, L.contains i = true → i < ops.size
def SA (P : Program) (ρ : Option Nat) (n : Nat) (ops : Array Oper) (fuel : Nat) (L : List Nat) (t : Fr) (h : Hp) (K : Fr → Hp → Prop) : Prop :=
  ∀ listed F w tm D (Q : Exit → Act → World → Prop), lst ops listed L → Own F h w → FrR F n t tm → (∀ t' h' F' w' tm', K t' h' → Own F' h' w' → FrR F' n t' tm' → Trans F h w F' h' w' → Q .normal ⟨tm', D⟩ w') → wpAnyIn (FW ρ) 0 P .any ops Q fuel listed ⟨tm, D⟩ w
def late (ops : Array Oper) (L : List Nat) (e : Nat) : Bool := L.all fun i => (descs ops i).contains e
def wA (P : Program) (ρ : Option Nat) (n : Nat) (ops : Array Oper) : Nat → List Nat → Fr → Hp → (Fr → Hp → Prop) → Prop
  | 0, L, t, h, K => rdy ops L = [] ∧ K t h
  | fuel + 1, L, t, h, K => (∃ e, rdy ops L = [e] ∧ late ops L e = true ∧ SA P ρ n ops (fuel + 1) L t h K) ∨ ((rdy ops L = [] → K t h) ∧ ∀ i ∈ rdy ops L, ∀ o, ops[i]? = some o → wStep P ρ n ops o t h fun t' h' => wA P ρ n ops fuel (i :: L) t' h' K)
theorem rdy_congr {L L' : List Nat} (hl : ∀ x, L.contains x = L'.contains x) : rdy ops L = rdy ops L' := by
  unfold rdy
  congr 1
  funext i
  simp only [hl]
theorem lst_congr {listed : Array Bool} {L L' : List Nat} (hl : ∀ x, L.contains x = L'.contains x) (h : lst ops listed L') : lst ops listed L := by
  refine ⟨h.1, fun i => ?_, fun i hi => h.2.2 i (by rw [← hl]; exact hi)⟩
  rw [h.2.1 i, hl]
theorem late_congr {L L' : List Nat} (hl : ∀ x, L.contains x = L'.contains x) {e : Nat} (h : late ops L e = true) : late ops L' e = true := by
  unfold late at h ⊢
  rw [List.all_eq_true] at h ⊢
  intro x hx
  exact h x (by have := hl x; rw [show L'.contains x = true by simpa using hx] at this; simpa using this)
theorem wA_congr : ∀ (fuel : Nat) (L L' : List Nat) (t : Fr) (h : Hp), (∀ x, L.contains x = L'.contains x) → wA P ρ n ops fuel L t h K → wA P ρ n ops fuel L' t h K
  | 0, L, L', t, h, hl, hw => by
    simp only [wA] at hw ⊢
    rw [← rdy_congr hl]; exact hw
  | fuel + 1, L, L', t, h, hl, hw => by
    simp only [wA] at hw ⊢
    rw [← rdy_congr hl]
    rcases hw with ⟨e, h1, h2, h3⟩ | hw
    · exact .inl ⟨e, h1, late_congr hl h2, fun listed F w tm D Q hls => h3 listed F w tm D Q (lst_congr hl hls)⟩
    refine .inr ⟨hw.1, fun i hi o ho => (hw.2 i hi o ho).mono fun t' h' => wA_congr fuel _ _ t' h' fun x => ?_⟩
    have := hl x
    simp only [List.contains_cons, this]
theorem lst_rdy {listed : Array Bool} {L : List Nat} (hl : lst ops listed L) : Region.ready .any ops listed = rdy ops L := by
  unfold Region.ready rdy
  refine List.filter_congr fun i hi => ?_
  have hi' : i < ops.size := by simpa using hi
  have h1 : listed.getD i true = L.contains i := by
    rw [Array.getD_eq_getD_getElem?, hl.2.1, if_pos hi']; rfl
  have h2 : ∀ j, listed.getD j false = L.contains j := fun j => by
    rw [Array.getD_eq_getD_getElem?, hl.2.1]
    split
    · rfl
    · rename_i hj
      cases hc : L.contains j with
      | false => rfl
      | true => exact absurd (hl.2.2 j hc) hj
  simp only [h1, h2]
theorem lst_cons {listed : Array Bool} {L : List Nat} (hl : lst ops listed L) {i : Nat} (hi : i < ops.size) : lst ops (listed.setIfInBounds i true) (i :: L) := by
  refine ⟨by simp [hl.1], fun j => ?_, fun j hj => ?_⟩
  · rw [Array.getElem?_setIfInBounds]
    by_cases e : i = j
    · subst e; simp [hl.1, hi]
    · rw [if_neg e, hl.2.1 j]
      have e' : ¬ j = i := fun h => e h.symm
      simp [List.contains_cons, e']
  · simp only [List.contains_cons, Bool.or_eq_true, beq_iff_eq] at hj
    rcases hj with rfl | hj
    · exact hi
    · exact hl.2.2 j hj
theorem wStep_sound {o : Oper} {F : Froz} {w : World} {tm : Array Value} {D : List Deferred} {next : Act → World → Prop} {Q : Exit → Act → World → Prop} {i : Nat} (ho : ops[i]? = some o) (hw : wStep P ρ n ops o t h K) (hown : Own F h w) (hf : FrR F n t tm)
    (hk : ∀ t' h' F' w' tm', K t' h' → Own F' h' w' → FrR F' n t' tm' → Trans F h w F' h' w' → next ⟨tm', D⟩ w') : wpOpIn (FW ρ) 0 P ops Q i next ⟨tm, D⟩ w := by
  unfold wpOpIn
  rw [ho]
  simp only
  obtain ⟨hd, hw⟩ := hw
  have hrs : FrR F n (rs ops t o) tm := hf.sub fun i v hv => by
    unfold rs at hv
    split at hv
    · exact hv
    · simp at hv
  have main : WOpQ P ρ n o (rs ops t o) h (fun v h' => K (updO t o.dst v) h') → Oper.wpIn (FW ρ) 0 P o ⟨tm, D⟩ w next Q := by
    intro hw
    refine ⟨fun f _ => FW_fn ρ f, hw F w tm D _ Q hown hrs ?_⟩
    intro v x h' F' w' hk' ho' hr tr
    obtain ⟨tm', e, hf'⟩ := frR_put (o := o) (hf.mono tr.mono) hd hr (D := D)
    rw [e]
    exact hk _ _ _ _ _ hk'.1 ho' hf' tr
  split at hw
  · rename_i hg
    rw [if_pos (by simp [Region.wanted, hg])]
    exact main hw
  · rename_i j want hg
    split at hw
    · rename_i d hjd
      split at hw
      · rename_i b hb
        obtain ⟨x, hx, r⟩ := hf.at_ d _ hb
        obtain rfl := r.bool_inv
        have hy : yielded ops tm j = some b := by simp [yielded, hjd, hx]
        have hwant : Region.wanted o (yielded ops tm) = (b == want) := by
          simp only [Region.wanted, hg, hy]
          cases b <;> cases want <;> rfl
        rw [hwant]
        by_cases hbw : b = want
        · rw [if_pos (by simpa using hbw)]
          exact main (hw.1 hbw)
        · have hbn : b = !want := by cases b <;> cases want <;> simp_all
          rw [if_neg (by simpa using hbw)]
          refine ⟨fun f _ => FW_fn ρ f, ?_⟩
          obtain ⟨tm', e, hf'⟩ := frR_put (o := o) hf hd (VR.tup [] #[] rfl (fun i v h => by simp at h)) (D := D)
          have e' : Act.put ⟨tm, D⟩ o.dst undef = ⟨tm', D⟩ := e
          rw [e']
          exact hk _ _ _ _ _ (hw.2 hbn) hown hf' (Trans.refl _ _ _)
      · rename_i cs hb
        obtain ⟨x, hx, r⟩ := hf.at_ d _ hb
        obtain ⟨vs, rfl, _⟩ := r.tup_inv
        have hy : yielded ops tm j = none := by simp [yielded, hjd, hx]
        rw [if_neg (by simp [Region.wanted, hg, hy])]
        refine ⟨fun f _ => FW_fn ρ f, ?_⟩
        obtain ⟨tm', e, hf'⟩ := frR_put (o := o) hf hd (VR.tup [] #[] rfl (fun i v h => by simp at h)) (D := D)
        have e' : Act.put ⟨tm, D⟩ o.dst undef = ⟨tm', D⟩ := e
        rw [e']
        exact hk _ _ _ _ _ hw hown hf' (Trans.refl _ _ _)
      · exact hw.elim
    · exact hw.elim
theorem rdy_lt {L : List Nat} {i : Nat} (hi : i ∈ rdy ops L) : i < ops.size := by
  unfold rdy at hi
  have := (List.mem_filter.1 hi).1
  simpa using this
theorem wA_sound {Q : Exit → Act → World → Prop} {D : List Deferred} : ∀ (fuel : Nat) (L : List Nat) (listed : Array Bool) (t : Fr) (h : Hp) (F : Froz) (w : World) (tm : Array Value), wA P ρ n ops fuel L t h K → lst ops listed L → Own F h w → FrR F n t tm →
    (∀ t' h' F' w' tm', K t' h' → Own F' h' w' → FrR F' n t' tm' → Trans F h w F' h' w' → Q .normal ⟨tm', D⟩ w') → wpAnyIn (FW ρ) 0 P .any ops Q fuel listed ⟨tm, D⟩ w
  | 0, L, listed, t, h, F, w, tm, hw, hl, ho, hf, hk => by
    simp only [wpAnyIn, wA] at hw ⊢
    rw [lst_rdy hl]
    exact ⟨hw.1, hk _ _ _ _ _ hw.2 ho hf (Trans.refl _ _ _)⟩
  | fuel + 1, L, listed, t, h, F, w, tm, hw, hl, ho, hf, hk => by
    rw [wA] at hw
    rcases hw with ⟨e, _, _, h3⟩ | hw
    · exact h3 listed F w tm D Q hl ho hf hk
    simp only [wpAnyIn]
    rw [lst_rdy hl]
    refine ⟨fun e => hk _ _ _ _ _ (hw.1 e) ho hf (Trans.refl _ _ _), fun i hi => ?_⟩
    have hlt := rdy_lt hi
    have hoi : ops[i]? = some ops[i] := by simp [hlt]
    refine wStep_sound hoi (hw.2 i hi _ hoi) ho hf fun t' h' F' w' tm' k o' f' tr => ?_
    exact wA_sound fuel (i :: L) _ t' h' F' w' tm' k (lst_cons hl hlt) o' f' fun t2 h2 F2 w2 tm2 k2 o2 f2 tr2 => hk t2 h2 F2 w2 tm2 k2 o2 f2 (tr.trans tr2)
theorem WC.region_draw {dl : List Nat} {Q : Po} {id : Nat} (hm : P.follows .mixedOrders = true) (hw : wA P ρ n ops ops.size [] t h fun t' h' => Q .normal t' h' dl) : WC P ρ n (.region id ops true) t h dl Q := by
  intro F w tm ho hf
  refine wpIn_region_any hm (wA_sound _ [] _ t h F _ tm hw ⟨by simp, fun i => by simp [Array.getElem?_replicate], fun i hi => by simp at hi⟩ (ho.drawn _) hf ?_)
  intro t' h' F' w' tm' k o' f' tr
  exact ⟨t', h', dl, F', k, o', f', rfl, (Trans.drawn _ _ _ _).trans tr⟩
end Go.Fw
