/- A part of the proof: LwS, LwT, LwU, LwV, LwW, LwX, LwY, LwZ, LwAA, LwAB, LwAC -/
import Derived.Test.YtmohgegpcfkooaaGreatDoorLwR
set_option linter.all false
set_option linter.unusedSectionVars false
set_option linter.unusedVariables false
set_option linter.unusedSimpArgs false
section
namespace Go.Fw
variable [Gl]
variable {P : Program} {ρr : Option Nat} {n nb : Nat} {Q : LPo} {arr : Array Oper} {o : Oper} {os : List Oper} {κ : List Kt} {kn : Kn} {m : Fl} {h hf : Hp} {nx : Nat} {dl : List Nat} {dr : Dr}
mutual
def okV (ks : List Nat) : V → Bool
  | .ptr b _ | .slice b _ _ _ | .map b => ks.contains b
  | .clo _ l | .agg l | .tup l => okL ks l
  | .iface _ v => okV ks v
  | _ => true
def okL (ks : List Nat) : List V → Bool
  | [] => true
  | v :: r => okV ks v && okL ks r
end
mutual
theorem okV_ren {ρ ρ' : Nat → Option Nat} {ks : List Nat} (hk : ∀ k, ks.contains k = true → ρ' k = ρ k) : ∀ (v : V), okV ks v = true → renV ρ' v = renV ρ v
  | .ptr b o, h => by simp only [okV] at h; simp only [renV, hk b h]
  | .slice b o l c, h => by simp only [okV] at h; simp only [renV, hk b h]
  | .map b, h => by simp only [okV] at h; simp only [renV, hk b h]
  | .clo f l, h => by simp only [okV] at h; simp only [renV, okL_ren hk l h]
  | .agg l, h => by simp only [okV] at h; simp only [renV, okL_ren hk l h]
  | .tup l, h => by simp only [okV] at h; simp only [renV, okL_ren hk l h]
  | .iface t v, h => by simp only [okV] at h; simp only [renV, okV_ren hk v h]
  | .int _ _, h | .bool _, h | .str _, h | .flt _ _, h | .nilptr, h | .fptr _ _, h | .nilslice, h | .fslice _ _, h | .eslice, h | .nilmap, h | .nilfunc, h | .yield _, h | .niliface, h => rfl
theorem okL_ren {ρ ρ' : Nat → Option Nat} {ks : List Nat} (hk : ∀ k, ks.contains k = true → ρ' k = ρ k) : ∀ (l : List V), okL ks l = true → renL ρ' l = renL ρ l
  | [], h => rfl
  | v :: r, h => by simp only [okL, Bool.and_eq_true] at h; simp only [renL, okV_ren hk v h.1, okL_ren hk r h.2]
end
def okM (ks : List Nat) (m : Fl) : Bool := m.all fun p => okV ks p.2
end Go.Fw
end

section
namespace Go.Fw
variable [Gl]
variable {P : Program} {ρr : Option Nat} {n nb : Nat} {Q : LPo} {arr : Array Oper} {o : Oper} {os : List Oper} {κ : List Kt} {kn : Kn} {m : Fl} {h hf : Hp} {nx : Nat} {dl : List Nat} {dr : Dr}
def tzL (P : Program) (T : TypeId) (k : Nat) : Bool := match tzero P T with
  | some z => Nat.beq z.length k
  | none => false
theorem tzL_ok {T : TypeId} {k : Nat} (h : tzL P T k = true) : ∃ z, tzero P T = some z ∧ z.length = k ∧ z.all dryV1 = true := by
  unfold tzL at h
  split at h
  · rename_i z hz; exact ⟨z, hz, Nat.eq_of_beq_eq_true h, tzero_dry hz⟩
  · simp at h
theorem Safe.allocB {d k : Nat} {T : TypeId} (hz : tzL P T k = true) (hop : o.op = .alloc T) (hr : rdyO arr kn m n o = some d)
    (hs : ∀ cs : List V, cs.length = k → cs.all dryV1 = true → Safe nb P ρr n Q (.ops arr .no os κ ((d, none) :: kn) ((d, .ptr nx 0) :: m) ((nx, .cells T cs k) :: h) (nx + 1) hf dl)) : Safe nb P ρr n Q (.ops arr .no (o :: os) κ kn m h nx hf dl) := by
  obtain ⟨z, hz1, hz2, hz3⟩ := tzL_ok hz
  refine Safe.op hr (LS.new (mk := fun b => .ptr b 0) (mkl := .ptr nx 0) (obl := .cells T z k) (fun ρ b => by simp [renV, rex]) (fun ρ K hn ht hw => OpS.alloc hop hz1 ?_) (hs z hz2 hz3))
  intro b hb
  have := hw b hb
  rw [renO, dryL1_ren ρ hz3, ← hz2] at this
  exact this
def bldB (P : Program) (m : Fl) (o : Oper) (k : Nat) : Bool := match o.op with
  | .build _ _ => match xP P m [] o with
    | some (.agg cs) => Nat.beq cs.length k && cs.all dryV1
    | _ => false
  | _ => false
theorem dryL1_dry {l : List V} (h : l.all dryV1 = true) : l.all dry = true := List.all_eq_true.2 fun v hv => dry1_dry (List.all_eq_true.1 h v hv)
theorem dryL1_leaf {l : List V} (h : l.all dryV1 = true) : l.all leafV = true := List.all_eq_true.2 fun v hv => by
  have := List.all_eq_true.1 h v hv
  cases v <;> simp_all [dryV1, leafV]
theorem Safe.buildB {d k : Nat} (hb : bldB P m o k = true) (hr : rdyO arr kn m n o = some d)
    (hs : ∀ cs : List V, cs.length = k → cs.all dryV1 = true → Safe nb P ρr n Q (.ops arr .no os κ ((d, none) :: kn) ((d, .agg cs) :: m) h nx hf dl)) : Safe nb P ρr n Q (.ops arr .no (o :: os) κ kn m h nx hf dl) := by
  unfold bldB at hb
  split at hb
  · rename_i T ps hop
    split at hb
    · rename_i cs hx
      simp only [Bool.and_eq_true] at hb
      refine Safe.val (v := .agg cs) (fun ρ hn ht => ?_) hr (hs cs (Nat.eq_of_beq_eq_true hb.1) hb.2)
      have hx2 : xP P m h o = some (.agg cs) := by
        unfold xP at hx ⊢
        simp only [hop] at hx ⊢
        exact hx
      exact xP_ren ht hx2 hn
    · simp at hb
  · simp at hb
def bldN (P : Program) (m : Fl) (o : Oper) (k : Nat) : Bool := match o.op with
  | .build _ _ => match xP P m [] o with
    | some (.agg cs) => Nat.beq cs.length (k + 1) && cs.all dryV1 && (match cs[k]? with
      | some .nilslice => true
      | _ => false)
    | _ => false
  | _ => false
theorem Safe.buildN {d k : Nat} (hb : bldN P m o k = true) (hr : rdyO arr kn m n o = some d)
    (hs : ∀ cs : List V, cs.length = k → cs.all dryV1 = true → Safe nb P ρr n Q (.ops arr .no os κ ((d, none) :: kn) ((d, .agg (cs ++ [.nilslice])) :: m) h nx hf dl)) : Safe nb P ρr n Q (.ops arr .no (o :: os) κ kn m h nx hf dl) := by
  unfold bldN at hb
  split at hb
  · rename_i T ps hop
    split at hb
    · rename_i cs hx
      simp only [Bool.and_eq_true] at hb
      obtain ⟨⟨h1, h2⟩, h3⟩ := hb
      have h1 := Nat.eq_of_beq_eq_true h1
      split at h3
      · rename_i hl
        have e : cs = cs.take k ++ [.nilslice] := by
          have hk : k < cs.length := by omega
          have e1 : cs[k] = .nilslice := by rw [List.getElem?_eq_getElem hk] at hl; exact Option.some.inj hl
          conv => lhs; rw [← List.take_append_drop k cs]
          rw [List.drop_eq_getElem_cons hk, e1, List.drop_of_length_le (by omega)]
        have h4 : (cs.take k).all dryV1 = true := List.all_eq_true.2 fun v hv => List.all_eq_true.1 h2 v (List.mem_of_mem_take hv)
        have := hs (cs.take k) (by simp; omega) h4
        rw [← e] at this
        refine Safe.val (v := .agg cs) (fun ρ hn ht => ?_) hr this
        have hx2 : xP P m h o = some (.agg cs) := by
          unfold xP at hx ⊢
          simp only [hop] at hx ⊢
          exact hx
        exact xP_ren ht hx2 hn
      · simp at h3
    · simp at hb
  · simp at hb
theorem putL_all {cs0 cs : List V} (h : cs.length = cs0.length) : putL cs0 0 cs = cs := by
  unfold putL
  rw [List.take_zero, List.nil_append, List.drop_of_length_le (by omega), List.append_nil]
theorem stL_all {cs0 cs : List V} (h : cs.length = cs0.length) : stL cs0 0 cs = cs := by
  match cs with
  | [] => simp only [stL]; exact putL_all h
  | [v] =>
    match cs0 with
    | [] => simp at h
    | [u] => rfl
    | a :: b :: r => simp at h
  | v :: u :: r => simp only [stL]; exact putL_all h
theorem Safe.storeB {T T' : TypeId} {a x : Operand} {k lab nn : Nat} {cs0 cs : List V} (hsz : tsz P T = some k) (h1 : cs.length = k) (h2 : cs0.length = k) (hlf : cs.all leafV = true) (hop : o.op = .store T a x) (ha : evX m a = some (.ptr lab 0)) (hx : evX m x = some (.agg cs)) (hg : hget h lab = some (.cells T' cs0 nn)) (hr : gdOk arr kn m o = true)
    (hs : Safe nb P ρr n Q (.ops arr .no os κ kn m (hset h lab (.cells T' cs nn)) nx hf dl)) : Safe nb P ρr n Q (.ops arr .no (o :: os) κ kn m h nx hf dl) := by
  refine Safe.stO hop ha hx hg hr (by rw [hsz]; simp only [vcells, h1]) (by simp only [vcells]; omega) hlf ?_
  rw [show vcells (.agg cs) = cs from rfl, stL_all (by omega)]
  exact hs
theorem ldAll {T : TypeId} {k : Nat} {cs : List V} (ht : tagg P T = some true) (hs : tsz P T = some k) (hl : cs.length = k) : ldAt P T cs 0 = some (.agg cs) := by
  unfold ldAt
  simp only [ht, hs]
  rw [if_pos (by omega), List.drop_zero, List.take_of_length_le (by omega)]
theorem ldLast {T : TypeId} {k : Nat} {cs : List V} {v : V} (ht : tagg P T = some false) (hl : cs.length = k) : ldAt P T (cs ++ [v]) k = some v := by
  unfold ldAt
  simp only [ht]
  rw [List.getElem?_append_right (by omega), hl, Nat.sub_self]; rfl
theorem Safe.stB {T T' : TypeId} {a x : Operand} {k off nn : Nat} {cs : List V} {v : V} (hoff : off < cs.length) (hd : cs.all dryV1 = true) (hop : o.op = .store T a x) (ha : evX m a = some (.ptr k off)) (hx : evX m x = some v) (hg : hget h k = some (.cells T' cs nn)) (hr : gdOk arr kn m o = true)
    (hsz : tsz P T = some 1) (hv : (dryV1 v && Nat.beq (vcells v).length 1) = true)
    (hs : ∀ cs' : List V, cs'.length = cs.length → cs'.all dryV1 = true → Safe nb P ρr n Q (.ops arr .no os κ kn m (hset h k (.cells T' cs' nn)) nx hf dl)) : Safe nb P ρr n Q (.ops arr .no (o :: os) κ kn m h nx hf dl) := by
  simp only [Bool.and_eq_true] at hv
  have hl := Nat.eq_of_beq_eq_true hv.2
  have hvc : vcells v = [v] := by cases v <;> simp_all [dryV1, vcells]
  refine Safe.stO hop ha hx hg hr (by rw [hsz, hl]) (by rw [hl]; omega) (by rw [hvc]; have := hv.1; cases v <;> simp_all [dryV1, leafV]) ?_
  rw [hvc]
  refine hs _ (by simp [stL]) ?_
  simp only [stL]
  refine List.all_eq_true.2 fun u hu => ?_
  rcases List.mem_or_eq_of_mem_set hu with h | h
  · exact List.all_eq_true.1 hd u h
  · rw [h]; exact hv.1
theorem Safe.pureF {d : Nat} {v : V} (hd : dry v = true) (hO : ∀ (ρ : Nat → Option Nat) (tt : Fr) (h' : Hp) (K : V → Hp → Prop), vldT ρ m → (∀ x ∈ o.op.operands.toList, evO tt x = evO (renT ρ m) x) → K v h' → OpS P ρr n o tt h' K) (hr : rdyO arr kn m n o = some d)
    (hs : Safe nb P ρr n Q (.ops arr dr.nx os κ ((d, none) :: kn) ((d, v) :: m) h nx hf dl)) (hck : ckC dr = true := by rfl) : Safe nb P ρr n Q (.ops arr dr (o :: os) κ kn m h nx hf dl) := by
  cases dr with
  | no =>
    refine Safe.op hr (LS.real fun ρ hg hn ht => hO ρ _ _ _ ht (fun _ _ => rfl) ?_)
    exact ⟨ρ, v, h, nx, hf, agr.refl _ _, hg, by rw [renT_pu, dry_ren ρ hd]; exact Ent.refl _ _, hs⟩
  | at_ j ck =>
    cases ck with
    | nil => simp [ckC] at hck
    | cons ce ck =>
      intro hdo hk ρ hg hn ht
      obtain ⟨hgd, hdst, hlt⟩ := rdyO_run hk hr
      obtain ⟨ho, hce, hdt⟩ := hdo.tail
      simp only [ckC] at hck
      rw [hce] at hck
      have hw := hs hdt (hk.cons fun b hb => by simp at hb) ρ hg hn (vldT_c ht (vld_dry hd))
      rw [renT_cons, dry_ren ρ hd] at hw
      refine wA.first (S := fun _ => True) (v := v) ho (fun oj t h K _ _ hw => anyS oj t h K hw) _ _ _ _ hck trivial (fun h' _ K' hk' => wStep.sem (dstOk_of hdst hlt) (gd_yes (i := hdO j) (gdL_S hgd)) ?_) ?_
      · exact hO ρ _ _ _ ht (fun x hx => evO_rs hx) ⟨hk', fun _ => hle.refl _⟩
      · rw [hdst]; exact hw
theorem bs_parts {ρ : Nat → Option Nat} {tt : Fr} {T : TypeId} {len : Nat} {parts : Array (Nat × Operand)} {ps : List (Nat × V)} (hop : o.op = .buildSlice T len parts) (hps : evXp m parts.toList = some ps) (hd : ps.all (fun p => dry p.2) = true) (htt : ∀ x ∈ o.op.operands.toList, evO tt x = evO (renT ρ m) x) : evParts tt parts.toList = some ps := by
  have key : ∀ l : List (Nat × Operand), (∀ p ∈ l, evO tt p.2 = evO (renT ρ m) p.2) → evParts tt l = evParts (renT ρ m) l := by
    intro l
    induction l with
    | nil => intro _; rfl
    | cons p r ih => intro h; simp only [evParts, h p (by simp), ih fun q hq => h q (List.mem_cons_of_mem _ hq)]
  rw [key _ fun p hp => htt p.2 (by simp only [hop, Op.operands]; simp; exact ⟨p.1, by simpa using hp⟩), evXp_ren hps]
  congr 1
  conv => rhs; rw [← List.map_id ps]
  refine List.map_congr_left fun p hp => ?_
  rw [dry_ren ρ (List.all_eq_true.1 hd p hp)]; rfl
theorem Safe.bsB1 {d k : Nat} {T e : TypeId} {parts : Array (Nat × Operand)} {cs : List V} (hz : tzL P e k = true) (hsz : tsz P e = some k) (hk : 2 ≤ k ∧ k ≤ 100000) (h1 : cs.length = k) (hd : cs.all dryV1 = true) (hT : tslice P T = some e) (hop : o.op = .buildSlice T 1 parts) (hps : evXp m parts.toList = some [(0, .agg cs)]) (hr : rdyO arr kn m n o = some d)
    (hs : Safe nb P ρr n Q (.ops arr dr.nx os κ ((d, none) :: kn) ((d, .fslice cs 1) :: m) h nx hf dl)) (hck : ckC dr = true := by rfl) : Safe nb P ρr n Q (.ops arr dr (o :: os) κ kn m h nx hf dl) := by
  obtain ⟨z, hz1, hz2, hz3⟩ := tzL_ok hz
  refine Safe.pureF rfl (fun ρ tt h' K ht htt hK => ?_) hr hs hck
  have hzl : (zcells z (1 * k)).length = k := by simp [zcells]
  refine OpS.frz (OpS.buildSlice hop hT hsz hz1 (by omega) (by omega) (bs_parts hop hps (by simp [dry, hd]) htt) (cs := cs) ?_ ?_)
  · simp only [evFill, vcells, Nat.zero_mul]
    rw [if_pos (by constructor <;> omega), putL_all (by omega)]
  · intro b hb
    exact ⟨b, e, cs, _, _, _, rfl, rfl, hK⟩
theorem Safe.bsB2 {d k : Nat} {T e : TypeId} {parts : Array (Nat × Operand)} {cs cs' : List V} (hz : tzL P e k = true) (hsz : tsz P e = some k) (hk : 2 ≤ k ∧ k ≤ 100000) (h1 : cs.length = k) (hd : cs.all dryV1 = true) (h1' : cs'.length = k) (hd' : cs'.all dryV1 = true) (hT : tslice P T = some e) (hop : o.op = .buildSlice T 2 parts) (hps : evXp m parts.toList = some [(0, .agg cs), (1, .agg cs')]) (hr : rdyO arr kn m n o = some d)
    (hs : Safe nb P ρr n Q (.ops arr dr.nx os κ ((d, none) :: kn) ((d, .fslice (cs ++ cs') 2) :: m) h nx hf dl)) (hck : ckC dr = true := by rfl) : Safe nb P ρr n Q (.ops arr dr (o :: os) κ kn m h nx hf dl) := by
  obtain ⟨z, hz1, hz2, hz3⟩ := tzL_ok hz
  refine Safe.pureF rfl (fun ρ tt h' K ht htt hK => ?_) hr hs hck
  have hzl : (zcells z (2 * k)).length = 2 * k := by simp [zcells]
  refine OpS.frz (OpS.buildSlice hop hT hsz hz1 (by omega) (by omega) (bs_parts hop hps (by simp [dry, hd, hd']) htt) (cs := cs ++ cs') ?_ ?_)
  · have e1 : putL (zcells z (2 * k)) 0 cs = cs ++ (zcells z (2 * k)).drop k := by simp [putL, h1]
    have e2 : putL (cs ++ (zcells z (2 * k)).drop k) (1 * k) cs' = cs ++ cs' := by
      unfold putL
      rw [List.take_append_of_le_length (by omega), List.take_of_length_le (by omega), List.drop_of_length_le (by simp; omega), List.append_nil]
    simp only [evFill, vcells, Nat.zero_mul]
    rw [if_pos (by constructor <;> omega), e1, if_pos (by rw [List.length_append, List.length_drop, hzl]; constructor <;> omega), e2]
  · intro b hb
    exact ⟨b, e, cs ++ cs', _, _, _, rfl, rfl, hK⟩
def gV (k len : Nat) : Option Nat → V
  | none => .nilslice
  | some N => .slice k 0 len N
def gH (e : TypeId) (kk k : Nat) (cs : List V) : Option Nat → Hp
  | none => []
  | some N => [(k, .cells e cs (N * kk))]
theorem hget_skip {h1 h2 : Hp} {k : Nat} {o : AObj} (hk : k ∉ h1.ns) : hget (h1 ++ (k, o) :: h2) k = some o ∧ hdel (h1 ++ (k, o) :: h2) k = h1 ++ h2 := by
  induction h1 with
  | nil => simp [hget, hdel]
  | cons p r ih =>
    simp only [Hp.ns_cons, List.mem_cons, not_or] at hk
    obtain ⟨a, b⟩ := ih hk.2
    simp only [List.cons_append, hget, hdel]
    rw [if_neg (fun e => hk.1 e.symm), if_neg (fun e => hk.1 e.symm)]
    exact ⟨a, by rw [b]⟩
theorem Safe.appG {d k kk by_ len mm : Nat} {G : Option Nat} {h1 h2 : Hp} {sT e xT : TypeId} {a b : Operand} {z cs us : List V} {x : V} (he : elemE P sT = some (e, kk, by_, z)) (hk : k ∉ h1.ns) (hG : G = none → cs = [] ∧ len = 0) (hh : h = h1 ++ (gH e kk k cs G ++ h2)) (hop : o.op = .call { callee := .builtin .append, args := #[a, b], argTypes := #[sT, xT] }) (hxT : appT P xT = true)
    (ha : evX m a = some (gV k len G)) (hb : evX m b = some x) (hsrc : ∀ h, evSrc h kk x = some (us, mm)) (hm : 0 < mm) (hr : rdyO arr kn m n o = some d)
    (hlen : cs.length = len * kk) (hud : us.all dry = true) (hlf : us.all leafV = true) (hbd : len + mm ≤ 100000000)
    (hs : ∀ N', len + mm ≤ N' → Safe nb P ρr n Q (.ops arr .no os κ ((d, none) :: kn) ((d, .slice nx 0 (len + mm) N') :: m) ((nx, .cells e (cs ++ us) (N' * kk)) :: (h1 ++ h2)) (nx + 1) hf dl)) :
    Safe nb P ρr n Q (.ops arr .no (o :: os) κ kn m h nx hf dl) := by
  subst hh
  cases G with
  | none =>
    obtain ⟨rfl, rfl⟩ := hG rfl
    refine Safe.appN hop he hxT ha hb (hsrc _) hr hm hud (by omega) fun N' hN' => ?_
    have := hs N' (by omega)
    simpa [gH] using this
  | some N =>
    obtain ⟨g1, g2⟩ := hget_skip (h1 := h1) (h2 := h2) (o := .cells e cs (N * kk)) hk
    refine Safe.appS hop he hxT ha hb (by simpa [gH] using g1) (hsrc _) hr rfl rfl hlen hud hlf hbd fun N' hN' => ?_
    have := hs N' hN'
    simp only [gH, List.singleton_append, g2]
    exact this
def ETri (P : Program) (f : FuncId) (as : List V) (Φ : V → Prop) : Prop := Tri P f as [] fun v h' => h' = [] ∧ dry v = true ∧ Φ v
inductive FinE (P : Program) (rs : List ResultVar) (Φ : V → Prop) : Fl → Hp → Prop where
  | done {m : Fl} {h : Hp} {r : V} (hv : resA P m h rs = some r) (hd : dry r = true) (hq : Φ r) : FinE P rs Φ m h
  | frz {m : Fl} {h : Hp} (k : Nat) {T : TypeId} {cs : List V} {nn : Nat} (hk : hget h k = some (.cells T cs nn)) (hd : cs.all dryV1 = true) (hr : FinE P rs Φ (frzM k cs m) (frzHp k cs (hdel h k))) : FinE P rs Φ m h
def RetE (P : Program) (rs : List ResultVar) (Φ : V → Prop) : LPo := fun e m h nx hf dl => (e = .normal ∨ e = .ret) ∧ dlOk dl hf ∧ FinE P rs Φ m h
theorem FinE.sound {rs : List ResultVar} {Φ : V → Prop} {m : Fl} {h : Hp} (hfin : FinE P rs Φ m h) {ρ : Nat → Option Nat} {nb nx : Nat} (hg : good nb ρ nx h) : ∃ m2 h2 r0, good nb ρ nx h2 ∧ Ent (renT ρ m) (renH ρ h ++ hf) (renT ρ m2) (renH ρ h2 ++ hf) ∧ resA P m2 h2 rs = some r0 ∧ dry r0 = true ∧ Φ r0 := by
  induction hfin with
  | done hv hd hq => exact ⟨_, _, _, hg, Ent.refl _ _, hv, hd, hq⟩
  | frz k hk hd hr ih =>
    obtain ⟨g1, e1⟩ := ent_frz (hf := hf) hg hk hd
    obtain ⟨m2, h2, r0, g2, e2, hv, hd2, hq⟩ := ih g1
    exact ⟨m2, h2, r0, g2, e1.trans e2, hv, hd2, hq⟩
theorem ETri.of_safe {f : FuncId} {fn : Func} {c : Code} {as : List V} {Φ : V → Prop} (hf : P.funcs[f]? = some fn) (hb : fn.body = some c) {rs : Array ResultVar} (hrs : fn.results = rs) (hn : fn.ntmps = n) (hl : (Nat.ble as.length n && as.all dry) = true)
    (hs : Safe 0 P none n (RetE P rs.toList Φ) (.code c [] [] (frm 0 as) [] 0 [] [])) : ETri P f as Φ := by
  simp only [Bool.and_eq_true] at hl
  refine Tri.vent (Φ := fun v _ => dry v = true ∧ Φ v) ?_ (fun v h' e => ⟨v, [], .drop (List.nil_sublist _) (.refl _ _), rfl, e.1, e.2⟩)
  intro F w av ho ha
  subst hrs
  refine callsIn_of_wp_marks hf hb (FW_fn none f) ?_ rfl
  subst hn
  have hs' := hs knNil (fun _ => none) ⟨fun _ _ => rfl, fun p hp => by simp at hp, Nat.zero_le _⟩
  rw [← frA_ren hl.2] at hs'
  refine wpIn_mono (hs' F w _ ho (frA_r ha (Nat.le_of_ble_eq_true hl.1))) ?_
  rintro e ⟨tm, ds⟩ w' ⟨t', h', dl', F', ⟨ρ', m', h2, nx', hf', a, g, en, q⟩, ho', hf'', hd, tr⟩
  simp only at hd hf''
  subst hd
  obtain ⟨he, hdl, hfin⟩ := q
  obtain ⟨m3, h3, r0, g3, e3, hv, hdr, hq⟩ := hfin.sound (hf := hf') g
  obtain ⟨F2, o2, f2, tr2⟩ := (en.trans e3) F' w' fn.ntmps tm ho' hf''
  have hres : ∀ hf : Hp, (renH ρ' h3 ++ hf).ns.Nodup → resAll P fn.results.toList (renT ρ' m3) (renH ρ' h3 ++ hf) = some r0 := fun hf hn => by rw [resA_ren (vldT_of f2) hn hv, dry_ren ρ' hdr]
  have key := leaves_sound (fn := fn) (Φ := fun v _ => v = r0) (R := fun e w' => ∃ v x h' F', e = .returned x ∧ (dry v = true ∧ Φ v) ∧ Own F' h' w' ∧ VR F' v x ∧ Trans F [] w F' h' w') dl' _ w' (dlOk_ret (Φ := fun v _ => v = r0) _ hres (fun _ => rfl) dl' hf' o2.nodup hdl) o2 f2
    fun v x h4 w4 p o4 q4 tr4 => ⟨r0, x, h4, F2, rfl, ⟨hdr, hq⟩, o4, by rw [← p]; exact q4, tr.trans (tr2.trans tr4)⟩
  cases e with
  | normal => exact key
  | ret => exact key
  | _ => rcases he with h | h <;> cases h
theorem ETri.p {f : FuncId} {as : List V} {r : V} (hp : ETri P f as (fun v => v = r)) : PTri P f as r := PTri.any (Tri.mono hp fun v h' e => e.2.2)
theorem Safe.callE {d : Nat} {f : FuncId} {as : List V} {Φ : V → Prop} (hp : ETri P f as Φ) (hc : callee? m o = some (f, as)) (hr : rdyO arr kn m n o = some d) (hside : (isGo P f && as.all dry) = true)
    (hs : ∀ v, dry v = true → Φ v → Safe nb P ρr n Q (.ops arr .no os κ ((d, none) :: kn) ((d, v) :: m) h nx hf dl)) : Safe nb P ρr n Q (.ops arr .no (o :: os) κ kn m h nx hf dl) := by
  simp only [Bool.and_eq_true] at hside
  refine Safe.callS hc hr fun ρ hg hn ht => ?_
  rw [dryL_ren ρ hside.2]
  have t0 := Tri.frame hp (renH ρ h ++ hf)
  refine CallS.of_tri hside.1 (t0.mono ?_)
  rintro v h' ⟨h1, rfl, ⟨rfl, hd, hq⟩, _⟩
  exact ⟨ρ, v, h, nx, hf, agr.refl _ _, hg, by rw [renT_pu, dry_ren ρ hd]; exact Ent.refl _ _, hs v hd hq⟩
theorem resA_c1 {a b off nn : Nat} {T T' : TypeId} {cs : List V} {v : V} (h3 : ldAt P T cs off = some v) (h1 : lk m a = some (.ptr b off)) (h2 : hget h b = some (.cells T' cs nn)) : resA P m h [.cell a T] = some v := by
  simp only [resA, resL, resL1, h1, h2, h3]
theorem resA_c2 {a b off nn i : Nat} {T T' : TypeId} {cs : List V} {v x : V} (h3 : ldAt P T cs off = some v) (h1 : lk m a = some (.ptr b off)) (h2 : hget h b = some (.cells T' cs nn)) (h4 : lk m i = some x) : resA P m h [.cell a T, .tmp i] = some (.tup [v, x]) := by
  simp only [resA, resL, resL1, h1, h2, h3, h4]
theorem resA_c3 {a b off nn i j : Nat} {T T' : TypeId} {cs : List V} {v x y : V} (h3 : ldAt P T cs off = some v) (h1 : lk m a = some (.ptr b off)) (h2 : hget h b = some (.cells T' cs nn)) (h4 : lk m i = some x) (h5 : lk m j = some y) : resA P m h [.cell a T, .tmp i, .tmp j] = some (.tup [v, x, y]) := by
  simp only [resA, resL, resL1, h1, h2, h3, h4, h5]
def bldBp (P : Program) (m : Fl) (o : Oper) (k : Nat) (p : List V → Bool) : Bool := match o.op with
  | .build _ _ => match xP P m [] o with
    | some (.agg cs) => Nat.beq cs.length k && cs.all dryV1 && p cs
    | _ => false
  | _ => false
theorem Safe.buildBp {d k : Nat} {p : List V → Bool} (hb : bldBp P m o k p = true) (hr : rdyO arr kn m n o = some d)
    (hs : ∀ cs : List V, cs.length = k → cs.all dryV1 = true → p cs = true → Safe nb P ρr n Q (.ops arr .no os κ ((d, none) :: kn) ((d, .agg cs) :: m) h nx hf dl)) : Safe nb P ρr n Q (.ops arr .no (o :: os) κ kn m h nx hf dl) := by
  unfold bldBp at hb
  split at hb
  · rename_i T ps hop
    split at hb
    · rename_i cs hx
      simp only [Bool.and_eq_true] at hb
      refine Safe.val (v := .agg cs) (fun ρ hn ht => ?_) hr (hs cs (Nat.eq_of_beq_eq_true hb.1.1) hb.1.2 hb.2)
      have hx2 : xP P m h o = some (.agg cs) := by
        unfold xP at hx ⊢
        simp only [hop] at hx ⊢
        exact hx
      exact xP_ren ht hx2 hn
    · simp at hb
  · simp at hb
theorem Safe.stB2 {T T' : TypeId} {a x : Operand} {k off nn : Nat} {cs : List V} {v : V} (hoff : off < cs.length) (hd : cs.all dryV1 = true) (hop : o.op = .store T a x) (ha : evX m a = some (.ptr k off)) (hx : evX m x = some v) (hg : hget h k = some (.cells T' cs nn)) (hr : gdOk arr kn m o = true)
    (hsz : tsz P T = some 1) (hv : (dryV1 v && Nat.beq (vcells v).length 1) = true)
    (hs : ∀ cs' : List V, cs' = cs.set off v → cs'.length = cs.length → cs'.all dryV1 = true → Safe nb P ρr n Q (.ops arr .no os κ kn m (hset h k (.cells T' cs' nn)) nx hf dl)) : Safe nb P ρr n Q (.ops arr .no (o :: os) κ kn m h nx hf dl) := by
  simp only [Bool.and_eq_true] at hv
  have hl := Nat.eq_of_beq_eq_true hv.2
  have hvc : vcells v = [v] := by cases v <;> simp_all [dryV1, vcells]
  refine Safe.stO hop ha hx hg hr (by rw [hsz, hl]) (by rw [hl]; omega) (by rw [hvc]; have := hv.1; cases v <;> simp_all [dryV1, leafV]) ?_
  rw [hvc]
  refine hs _ (by simp only [stL]) (by simp [stL]) ?_
  simp only [stL]
  refine List.all_eq_true.2 fun u hu => ?_
  rcases List.mem_or_eq_of_mem_set hu with h | h
  · exact List.all_eq_true.1 hd u h
  · rw [h]; exact hv.1
theorem Safe.stLast {T T' : TypeId} {a x : Operand} {k off nn : Nat} {cs : List V} {v0 v : V} (hop : o.op = .store T a x) (ha : evX m a = some (.ptr k off)) (hx : evX m x = some v) (hg : hget h k = some (.cells T' (cs ++ [v0]) nn)) (hr : gdOk arr kn m o = true)
    (hsz : tsz P T = some 1) (hl : cs.length = off) (hvc : vcells v = [v]) (hlf : leafV v = true)
    (hs : Safe nb P ρr n Q (.ops arr .no os κ kn m (hset h k (.cells T' (cs ++ [v]) nn)) nx hf dl)) : Safe nb P ρr n Q (.ops arr .no (o :: os) κ kn m h nx hf dl) := by
  refine Safe.stO hop ha hx hg hr (by rw [hsz, hvc]; rfl) (by rw [hvc]; simp [hl]) (by rw [hvc]; simp [hlf]) ?_
  rw [hvc]
  have e : stL (cs ++ [v0]) off [v] = cs ++ [v] := by
    simp only [stL, ← hl]
    rw [List.set_append_right _ _ (Nat.le_refl _), Nat.sub_self]; rfl
  rw [e]
  exact hs
def elemK (P : Program) (sT e : TypeId) (kk : Nat) : Bool := match elemE P sT with
  | some (e', k', _, _) => Nat.beq e' e && Nat.beq k' kk
  | none => false
theorem elemK_ok {sT e : TypeId} {kk : Nat} (h : elemK P sT e kk = true) : ∃ by_ z, elemE P sT = some (e, kk, by_, z) := by
  unfold elemK at h
  split at h
  · rename_i e' k' b z he
    simp only [Bool.and_eq_true] at h
    rw [← Nat.eq_of_beq_eq_true h.1, ← Nat.eq_of_beq_eq_true h.2]
    exact ⟨b, z, he⟩
  · simp at h
theorem Safe.hpO {h' : Hp} {dr : Dr} (e : h = h') (hs : Safe nb P ρr n Q (.ops arr dr os κ kn m h' nx hf dl)) : Safe nb P ρr n Q (.ops arr dr os κ kn m h nx hf dl) := by subst e; exact hs
theorem frzX_app (k : Nat) (cs : List V) : ∀ a b : List V, frzX k cs (a ++ b) = frzX k cs a ++ frzX k cs b
  | [], _ => rfl
  | v :: r, b => by simp only [List.cons_append, frzX, frzX_app k cs r b]
theorem frzX_d0 (k : Nat) (cs : List V) : ∀ {a : List V}, a.all dryV0 = true → frzX k cs a = a
  | [], _ => rfl
  | v :: r, h => by
    simp only [List.all_cons, Bool.and_eq_true] at h
    have hv : frzW k cs v = v := by have := h.1; cases v <;> simp_all [dryV0, frzW]
    simp only [frzX, hv, frzX_d0 k cs h.2]
theorem frzW_d1 (k : Nat) (cs : List V) {v : V} (h : dryV1 v = true) : frzW k cs v = v := by
  cases v with
  | clo f l => simp only [dryV1] at h; rw [frzW, frzX_d0 k cs h]
  | _ => simp_all [dryV1, frzW]
theorem frzX_d1 (k : Nat) (cs : List V) : ∀ {a : List V}, a.all dryV1 = true → frzX k cs a = a
  | [], _ => rfl
  | v :: r, h => by
    simp only [List.all_cons, Bool.and_eq_true] at h
    have hv : frzW k cs v = v := frzW_d1 k cs h.1
    simp only [frzX, hv, frzX_d1 k cs h.2]
theorem evSrc_f1 {h : Hp} {k : Nat} {cs : List V} (hl : cs.length = k) : evSrc h k (.fslice cs 1) = some (cs, 1) := by
  simp only [evSrc]
  rw [if_pos (by omega), List.take_of_length_le (by omega)]
theorem Safe.one {d : Nat} {v : V} (hx : xP P m h o = some v) (hr : rdyO arr kn m n o = some d) (hs : Safe nb P ρr n Q (.ops arr .no os κ ((d, none) :: kn) ((d, v) :: m) h nx hf dl)) : Safe nb P ρr n Q (.ops arr .no (o :: os) κ kn m h nx hf dl) :=
  Safe.val (fun ρ hn ht => xP_ren ht hx hn) hr hs
def isIdxA (P : Program) (m : Fl) (o : Oper) : Option (List V × Nat × Nat × Int × Nat) := match o.op with
  | .indexAddr T x i => match evX m x with
    | some (.fptr cs off) => match evX m i with
      | some (.int _ j) => match tarr P T with
        | some (len, e) => match tsz P e with
          | some k => some (cs, off, len, j, k)
          | none => none
        | none => none
      | _ => none
    | _ => none
  | _ => none
theorem ev_idxA {cs : List V} {off len k : Nat} {j : Int} {i : Nat} (hi : i < len) (hj : j = (i : Int)) (hc : isIdxA P m o = some (cs, off, len, j, k)) : EvA P m o (.fptr cs (off + i * k)) := by
  intro ρ h ht
  subst hj
  unfold isIdxA at hc
  split at hc
  · rename_i hop
    split at hc
    · rename_i ha
      split at hc
      · rename_i hb
        split at hc
        · rename_i hT
          split at hc
          · rename_i hk
            simp only [Option.some.injEq, Prod.mk.injEq] at hc
            obtain ⟨rfl, rfl, rfl, rfl, rfl⟩ := hc
            simp only [evP, hop, evX_ren ha, evX_ren hb, renV, evIndexAddr, hT, hk]
            rw [if_pos (by omega)]
            simp
          · simp at hc
        · simp at hc
      · simp at hc
    · simp at hc
  · simp at hc
theorem Safe.idxA {d : Nat} {cs : List V} {off len k : Nat} {j : Int} {i : Nat} (hi : i < len) (hj : j = (i : Int)) (hc : isIdxA P m o = some (cs, off, len, j, k)) (hr : rdyO arr kn m n o = some d)
    (hs : Safe nb P ρr n Q (.ops arr dr.nx os κ ((d, none) :: kn) ((d, .fptr cs (off + i * k)) :: m) h nx hf dl)) (hck : ckA h (.fptr cs (off + i * k)) dr = true := by rfl) : Safe nb P ρr n Q (.ops arr dr (o :: os) κ kn m h nx hf dl) :=
  Safe.valA (ev_idxA hi hj hc) hr hs hck
def tzLp (P : Program) (T : TypeId) (k : Nat) (p : List V → Bool) : Bool := match tzero P T with
  | some z => Nat.beq z.length k && p z
  | none => false
theorem Safe.allocBp {d k : Nat} {T : TypeId} {p : List V → Bool} (hz : tzLp P T k p = true) (hop : o.op = .alloc T) (hr : rdyO arr kn m n o = some d)
    (hs : ∀ cs : List V, cs.length = k → cs.all dryV1 = true → p cs = true → Safe nb P ρr n Q (.ops arr .no os κ ((d, none) :: kn) ((d, .ptr nx 0) :: m) ((nx, .cells T cs k) :: h) (nx + 1) hf dl)) : Safe nb P ρr n Q (.ops arr .no (o :: os) κ kn m h nx hf dl) := by
  unfold tzLp at hz
  split at hz
  · rename_i z hz1
    simp only [Bool.and_eq_true] at hz
    have hz2 := Nat.eq_of_beq_eq_true hz.1
    have hz3 := tzero_dry hz1
    refine Safe.op hr (LS.new (mk := fun b => .ptr b 0) (mkl := .ptr nx 0) (obl := .cells T z k) (fun ρ b => by simp [renV, rex]) (fun ρ K hn ht hw => OpS.alloc hop hz1 ?_) (hs z hz2 hz3 hz.2))
    intro b hb
    have := hw b hb
    rw [renO, dryL1_ren ρ hz3, ← hz2] at this
    exact this
  · simp at hz
theorem Safe.appH {d k kk by_ len mm : Nat} {G : Option Nat} {h1 h2 : Hp} {sT e xT : TypeId} {a b : Operand} {z cs us : List V} {x : V} (he : elemE P sT = some (e, kk, by_, z)) (hk : k ∉ h1.ns) (hG : G = none → cs = [] ∧ len = 0) (hh : h = h1 ++ (gH e kk k cs G ++ h2)) (hop : o.op = .call { callee := .builtin .append, args := #[a, b], argTypes := #[sT, xT] }) (hxT : appT P xT = true)
    (ha : evX m a = some (gV k len G)) (hb : evX m b = some x) (hsrc : evSrc (h1 ++ (gH e kk k cs G ++ h2)) kk x = some (us, mm)) (hm : 0 < mm) (hr : rdyO arr kn m n o = some d)
    (hlen : cs.length = len * kk) (hud : us.all dry = true) (hlf : us.all leafV = true) (hbd : len + mm ≤ 100000000)
    (hs : ∀ N', len + mm ≤ N' → Safe nb P ρr n Q (.ops arr .no os κ ((d, none) :: kn) ((d, .slice nx 0 (len + mm) N') :: m) ((nx, .cells e (cs ++ us) (N' * kk)) :: (h1 ++ h2)) (nx + 1) hf dl)) :
    Safe nb P ρr n Q (.ops arr .no (o :: os) κ kn m h nx hf dl) := by
  subst hh
  cases G with
  | none =>
    obtain ⟨rfl, rfl⟩ := hG rfl
    refine Safe.appN hop he hxT ha hb hsrc hr hm hud (by omega) fun N' hN' => ?_
    have := hs N' (by omega)
    simpa [gH] using this
  | some N =>
    obtain ⟨g1, g2⟩ := hget_skip (h1 := h1) (h2 := h2) (o := .cells e cs (N * kk)) hk
    refine Safe.appS hop he hxT ha hb (by simpa [gH] using g1) hsrc hr rfl rfl hlen hud hlf hbd fun N' hN' => ?_
    have := hs N' hN'
    simp only [gH, List.singleton_append, g2]
    exact this
end Go.Fw
end

section
namespace Go.Fw
variable [Gl]
variable {P : Program} {ρr : Option Nat} {n nb : Nat} {Q : LPo} {arr : Array Oper} {o : Oper} {os : List Oper} {κ : List Kt} {kn : Kn} {m : Fl} {h hf : Hp} {nx : Nat} {dl : List Nat}
theorem dlOk_ret2 {rs : List ResultVar} {t : Fr} {v : V} (a : Hp) (hv : ∀ hf : Hp, (a ++ hf).ns.Nodup → resAll P rs t (a ++ hf) = some v) : ∀ (dl : List Nat) (hf : Hp), (a ++ hf).ns.Nodup → dlOk dl hf → RetOk P rs (fun u h' => u = v ∧ ∃ hf2, h' = a ++ hf2) t dl (a ++ hf)
  | [], hf, hn, _ => ⟨v, hv hf hn, rfl, hf, rfl⟩
  | r :: dl, hf, hn, hd => by
    obtain ⟨h1, h2⟩ := hget_right hd.1 hn
    refine ⟨h1, ?_⟩
    rw [h2]
    exact dlOk_ret2 a hv dl _ (by rw [← h2]; exact hdel_nodup r hn) hd.2
def RetY (P : Program) (rs : List ResultVar) (Φ : V → Hp → Prop) : LPo := fun e m h nx hf dl => (e = .normal ∨ e = .ret) ∧ dl = [] ∧ ∃ r, FinOk P rs r m h ∧ Φ r hf
theorem Tri.of_safeY {f : FuncId} {fn : Func} {c : Code} {as : List V} {Φ : V → Hp → Prop} {h0 : Hp} (hf : P.funcs[f]? = some fn) (hb : fn.body = some c) {rs : Array ResultVar} (hrs : fn.results = rs) (hn : fn.ntmps = n) (hl : (Nat.ble as.length n && as.all dry) = true)
    (hs : Safe 0 P none n (RetY P rs.toList Φ) (.code c [] [] (frm 0 as) [] 0 h0 [])) : Tri P f as h0 Φ := by
  simp only [Bool.and_eq_true] at hl
  intro F w av ho ha
  subst hrs
  refine callsIn_of_wp_marks hf hb (FW_fn none f) ?_ rfl
  subst hn
  have hs' := hs knNil (fun _ => none) ⟨fun _ _ => rfl, fun p hp => by simp at hp, Nat.zero_le _⟩
  rw [← frA_ren hl.2] at hs'
  refine wpIn_mono (hs' F w _ ho (frA_r ha (Nat.le_of_ble_eq_true hl.1))) ?_
  rintro e ⟨tm, ds⟩ w' ⟨t', h', dl', F', ⟨ρ', m', h2, nx', hf', a, g, en, q⟩, ho', hf'', hd, tr⟩
  simp only at hd hf''
  subst hd
  obtain ⟨he, rfl, r, hfin, hΦ⟩ := q
  obtain ⟨m3, h3, r0, g3, e3, hv, hdr, hle⟩ := hfin.sound (hf := hf') g
  obtain ⟨F2, o2, f2, tr2⟩ := (en.trans e3) F' w' fn.ntmps tm ho' hf''
  have hres : resAll P fn.results.toList (renT ρ' m3) (renH ρ' h3 ++ hf') = some r0 := by rw [resA_ren (vldT_of f2) o2.nodup hv, dry_ren ρ' hdr]
  have key := leaves_sound (fn := fn) (Φ := fun v h' => v = r0 ∧ h' = renH ρ' h3 ++ hf') (R := fun e w' => ∃ v x h' F', e = .returned x ∧ Φ v h' ∧ Own F' h' w' ∧ VR F' v x ∧ Trans F h0 w F' h' w') [] _ w' ⟨_, hres, rfl, rfl⟩ o2 f2
    fun v x h4 w4 p o4 q4 tr4 => by
      obtain ⟨p1, p2⟩ := p
      subst p1 p2
      exact ⟨r, x, hf', F2, rfl, hΦ, o4.sub (List.sublist_append_right _ _), hle _ _ q4, (tr.trans (tr2.trans tr4)).trans (Trans.sub (List.sublist_append_right _ _))⟩
  cases e with
  | normal => exact key
  | ret => exact key
  | _ => rcases he with h | h <;> cases h
def yieldee? (m : Fl) (o : Oper) : Option (Nat × List V) := match o.op with
  | .call c => match c.callee with
    | .value fo => match evX m fo with
      | some (.yield l) => match evXs m c.args.toList with
        | some as => some (l, as)
        | none => none
      | _ => none
    | _ => none
  | _ => none
theorem yieldee?_inv {l : Nat} {as : List V} (hc : yieldee? m o = some (l, as)) : ∃ c fo, o.op = .call c ∧ c.callee = .value fo ∧ evX m fo = some (.yield l) ∧ evXs m c.args.toList = some as := by
  unfold yieldee? at hc
  split at hc
  · rename_i c hop
    split at hc
    · rename_i fo hfo
      split at hc
      · rename_i l' he
        split at hc
        · rename_i bs hb
          simp only [Option.some.injEq, Prod.mk.injEq] at hc
          obtain ⟨rfl, rfl⟩ := hc
          exact ⟨c, fo, hop, hfo, he, hb⟩
        · simp at hc
      · simp at hc
    · simp at hc
  · simp at hc
theorem YieldS.framed {l : Nat} {as : List V} {K : V → Hp → Prop} (hy : YieldS P l as hf K) (h0 : Hp) : YieldS P l as (h0 ++ hf) fun v h' => ∃ h1, h' = h0 ++ h1 ∧ K v h1 := by
  intro F w av ρ o a next Q' ho ha hn
  have hp : (hf ++ h0).Perm (h0 ++ hf) := List.perm_append_comm
  have ho1 := ho.perm hp
  refine hy F w av ρ o a next Q' (ho1.sub (List.sublist_append_left _ _)) ha fun v x h' F' w' k o' r tr => ?_
  obtain ⟨g1, g2, g3⟩ := own_frame ho1 o' tr
  have hp2 : (h0 ++ h').Perm (h' ++ h0) := List.perm_append_comm
  exact hn v x _ F' w' ⟨h', rfl, k⟩ (g1.perm hp2) r (((Trans.perm hp).trans g2).trans (Trans.perm hp2))
theorem Safe.yield {d l : Nat} {as : List V} {K : V → Hp → Prop} (hy : YieldS P l as hf K) (hc : yieldee? m o = some (l, as)) (hr : rdyO arr kn m n o = some d) (hside : as.all dry = true)
    (hs : ∀ v hf', K v hf' → dry v = true ∧ Safe nb P ρr n Q (.ops arr .no os κ ((d, none) :: kn) ((d, v) :: m) h nx hf' dl)) : Safe nb P ρr n Q (.ops arr .no (o :: os) κ kn m h nx hf dl) := by
  obtain ⟨c, fo, hop, hfo, he, hb⟩ := yieldee?_inv hc
  refine Safe.op hr (LS.real fun ρ hg hn ht => ?_)
  have h1 := evX_ren (ρ := ρ) he
  have h2 := evXs_ren (ρ := ρ) hb
  rw [dryL_ren ρ hside] at h2
  refine OpS.yield hop hfo h1 h2 ((hy.framed (renH ρ h)).mono ?_)
  rintro v h' ⟨hf', rfl, k⟩
  obtain ⟨hd, hS⟩ := hs v hf' k
  exact ⟨ρ, v, h, nx, hf', agr.refl _ _, hg, by rw [renT_pu, dry_ren ρ hd]; exact Ent.refl _ _, hS⟩
def bindL : List Nat → List V → Fl → Fl
  | p :: ps, v :: vs, m => bindL ps vs ((p, v) :: m)
  | _, _, m => m
theorem bindL_ren (ρ : Nat → Option Nat) : ∀ (ps : List Nat) (vs : List V) (m : Fl), vs.all dry = true → bindP ps vs (renT ρ m) = renT ρ (bindL ps vs m)
  | [], vs, m, _ => by cases vs <;> rfl
  | p :: ps, [], m, _ => rfl
  | p :: ps, v :: vs, m, hd => by
    simp only [List.all_cons, Bool.and_eq_true] at hd
    simp only [bindP, bindL]
    rw [← bindL_ren ρ ps vs _ hd.2, renT_cons, dry_ren ρ hd.1]
def AsgQ (nx : Nat) (P : Program) (l : Nat) (n : Nat) (body : Code) (R : LPo) : LPo := fun e m2 h2 nx2 hf2 dl2 => match e with
  | .normal => Safe nx P (some l) n R (.code body [] [] m2 h2 nx2 hf2 dl2)
  | _ => False
end Go.Fw
end

section
namespace Go.Fw
variable {α : Type}
end Go.Fw
end

section
namespace Go.Fw
variable [Gl]
variable {P : Program} {ρr : Option Nat} {n nb : Nat} {Q : LPo} {arr : Array Oper} {o : Oper} {os : List Oper} {κ : List Kt} {kn : Kn} {m : Fl} {h hf : Hp} {nx : Nat} {dl : List Nat}
def BackH (nb : Nat) {α : Type} (fr : α → Fl) (hp : α → Hp) (nx0 : Nat) (meas : α → Nat) (I : α → Prop) (R : α → Hp → List Nat → Prop) (a : α) : Fl → Hp → Nat → Hp → List Nat → Prop := fun m h nx hf dl =>
  ∃ sg b, I b ∧ meas b < meas a ∧ R b hf dl ∧ Rel nb sg m h nx (fr b) (hp b) nx0
theorem Safe.loopH {α : Type} {c : Code} (fr : α → Fl) (hp : α → Hp) (nx0 : Nat) (meas : α → Nat) (I : α → Prop) (R : α → Hp → List Nat → Prop) (a0 : α) (sg : Sg) (hr : Rel nb sg m h nx (fr a0) (hp a0) nx0) (h0 : I a0) (hR : R a0 hf dl)
    (round : ∀ a, I a → ∀ hf dl, R a hf dl → Safe nb P ρr n Q (.code c (.lp (BackH nb fr hp nx0 meas I R a) :: κ) [] (fr a) (hp a) nx0 hf dl)) : Safe nb P ρr n Q (.code (.loop c) κ kn m h nx hf dl) := by
  refine Safe.rel (κ := κ) sg hr fun hk ρ hg => ?_
  refine WC.loopE (fun j t h' dl' => ∃ a ρ' hf', meas a = j ∧ I a ∧ R a hf' dl' ∧ agr nb ρ ρ' ∧ good nb ρ' nx0 (hp a) ∧ t = renT ρ' (fr a) ∧ h' = renH ρ' (hp a) ++ hf') ?_ (j := meas a0) (Ent.refl _ _) ⟨a0, ρ, hf, rfl, h0, hR, agr.refl _ _, hg, rfl, rfl⟩
  rintro j t h' dl' ⟨a, ρ', hf', rfl, hI, hR, ag, gd, rfl, rfl⟩
  refine ((round a hI hf' dl' hR knNil) ρ' gd).mono ?_
  rintro e t2 h2 dl2 ⟨ρ2, m2, h3, nx2, hf2, a2, g2, en2, q2⟩
  cases e with
  | normal =>
    obtain ⟨sg2, b, hIb, hlt, hRb, hr2⟩ := q2
    obtain ⟨a3, g3, en3⟩ := hr2.ent g2 hf2
    exact ⟨meas b, _, _, hlt, en2.trans en3, b, cmp ρ2 sg2, hf2, rfl, hIb, hRb, ag.trans (a2.trans a3), g3, rfl, rfl⟩
  | _ => exact ⟨ρ2, m2, h3, nx2, hf2, ag.trans a2, g2, en2, q2⟩
theorem Safe.toBody {l : Nat} {body : Code} {R : LPo} (hs : Safe nx P (some l) n R (.code body [] [] m h nb hf dl)) : Safe nx P (some l) n (AsgQ nx P l n body R) (.fin .normal m h nb hf dl) := hs
def FinR (nb : Nat) (r : V) (h : Hp) (nx : Nat) (Φ : V → Hp → Nat → Prop) : Prop := ∃ sg r2 h2 nx2, Rel nb sg [(0, r)] h nx [(0, r2)] h2 nx2 ∧ Φ r2 h2 nx2
inductive FinN (nb : Nat) (P : Program) (rs : List ResultVar) (Φ : V → Hp → Nat → Prop) : Fl → Hp → Nat → Prop where
  | done {m : Fl} {h : Hp} {nx : Nat} {r : V} (hv : resA P m h rs = some r) (hq : FinR nb r h nx Φ) : FinN nb P rs Φ m h nx
  | frz {m : Fl} {h : Hp} {nx : Nat} (k : Nat) {T : TypeId} {cs : List V} {nn : Nat} (hk : hget h k = some (.cells T cs nn)) (hd : cs.all dryV1 = true) (hs : FinN nb P rs Φ (frzM k cs m) (frzHp k cs (hdel h k)) nx) : FinN nb P rs Φ m h nx
def RetN (nb : Nat) (P : Program) (rs : List ResultVar) (Φ : V → Hp → Nat → Prop) : LPo := fun e m h nx hf dl => (e = .normal ∨ e = .ret) ∧ dlOk dl hf ∧ FinN nb P rs Φ m h nx
theorem FinN.sound {rs : List ResultVar} {Φ : V → Hp → Nat → Prop} {hf : Hp} (hfin : FinN nb P rs Φ m h nx) : ∀ {ρ : Nat → Option Nat}, good nb ρ nx h → ∃ ρ' m2 h2 nx2 r0, agr nb ρ ρ' ∧ good nb ρ' nx2 h2 ∧ Ent (renT ρ m) (renH ρ h ++ hf) (renT ρ' m2) (renH ρ' h2 ++ hf) ∧ resA P m2 h2 rs = some r0 ∧ FinR nb r0 h2 nx2 Φ := by
  induction hfin with
  | done hv hq => exact fun {ρ} hg => ⟨_, _, _, _, _, agr.refl _ _, hg, Ent.refl _ _, hv, hq⟩
  | frz k hk hd hs ih =>
    intro ρ hg
    obtain ⟨g1, e1⟩ := ent_frz (hf := hf) hg hk hd
    obtain ⟨ρ', m2, h2, nx2, r0, a2, g2, e2, hv, hq⟩ := ih g1
    exact ⟨ρ', m2, h2, nx2, r0, a2, g2, e1.trans e2, hv, hq⟩
theorem TriL.of_safeN {f : FuncId} {fn : Func} {c : Code} {as : List V} {Φ : V → Hp → Nat → Prop} (hf : P.funcs[f]? = some fn) (hb : fn.body = some c) {rs : Array ResultVar} (hrs : fn.results = rs) (hn : fn.ntmps = n) (hl : Nat.ble as.length n = true)
    (hs : Safe nx P none n (RetN nx P rs.toList Φ) (.code c [] [] (frm 0 as) h nx [] [])) : TriL P f as h nx Φ := by
  intro ρ hg F w av ho ha
  subst hrs
  refine callsIn_of_wp_marks hf hb (FW_fn none f) ?_ rfl
  subst hn
  have hs' := hs knNil ρ hg
  have ho2 : Own F (renH ρ h ++ []) w := by rw [List.append_nil]; exact ho
  have hfr := frA_r ha (by rw [renL_length]; exact Nat.le_of_ble_eq_true hl)
  rw [frA_renL] at hfr
  refine wpIn_mono (hs' F w _ ho2 hfr) ?_
  rintro e ⟨tm, ds⟩ w' ⟨t', h', dl', F', ⟨ρ', m', h2, nx', hf', a, g, en, q⟩, ho', hf'', hd, tr⟩
  simp only at hd hf''
  subst hd
  obtain ⟨he, hdl, hfin⟩ := q
  obtain ⟨ρ3, m3, h3, nx3, r0, a3, g3, e3, hv, sg, r2, h4, nx4, hrel, hq⟩ := hfin.sound (hf := hf') g
  obtain ⟨F2, o2, f2, tr2⟩ := (en.trans e3) F' w' fn.ntmps tm ho' hf''
  have hres : ∀ hf : Hp, (renH ρ3 h3 ++ hf).ns.Nodup → resAll P fn.results.toList (renT ρ3 m3) (renH ρ3 h3 ++ hf) = some (renV ρ3 r0) := fun hf hn => resA_ren (vldT_of f2) hn hv
  have key := leaves_sound (fn := fn) (R := fun e w' => ∃ v x h' F', e = .returned x ∧ (∃ ρ' v0 h0 nx', agr nx ρ ρ' ∧ good nx ρ' nx' h0 ∧ v = renV ρ' v0 ∧ h' = renH ρ' h0 ∧ Φ v0 h0 nx') ∧ Own F' h' w' ∧ VR F' v x ∧ Trans F (renH ρ h) w F' h' w') dl' _ w' (dlOk_ret2 _ hres dl' hf' o2.nodup hdl) o2 f2
    (fun v x h5 w4 ⟨p1, hf2, p2⟩ o4 q4 tr4 => by
      subst p1 p2
      obtain ⟨a4, g4, en4⟩ := hrel.ent g3 ([] : Hp)
      have o5 : Own F2 (renH ρ3 h3 ++ []) w4 := by rw [List.append_nil]; exact o4.sub (List.sublist_append_left _ _)
      have f5 : FrR F2 1 (renT ρ3 [(0, r0)]) #[x] := ⟨by simp, fun i v hv => by
        unfold renT at hv
        simp only [lk] at hv
        cases hb : Nat.beq i 0 with
        | true =>
          rw [hb] at hv
          simp only [cond_true, Option.map_some, Option.some.injEq] at hv
          subst hv
          have := Nat.eq_of_beq_eq_true hb
          subst this
          exact ⟨x, rfl, q4⟩
        | false => rw [hb] at hv; simp at hv⟩
      obtain ⟨F6, o6, f6, tr6⟩ := en4 F2 w4 1 #[x] o5 f5
      obtain ⟨y, hy, q6⟩ := f6.at_ 0 (renV (cmp ρ3 sg) r2) (by simp [renT, lk])
      have hxy : y = x := by simpa using hy.symm
      rw [hxy] at q6
      rw [List.append_nil] at o6 tr6
      refine ⟨_, x, renH (cmp ρ3 sg) h4, F6, rfl, ⟨cmp ρ3 sg, r2, h4, nx4, (a.trans a3).trans a4, g4, rfl, rfl, hq⟩, o6, q6, ?_⟩
      have t1 := (tr.trans (tr2.trans tr4)).trans (Trans.sub (List.sublist_append_left (renH ρ3 h3) hf2))
      rw [List.append_nil] at t1
      rw [List.append_nil] at tr6
      exact t1.trans tr6)
  cases e with
  | normal => exact key
  | ret => exact key
  | _ => rcases he with h | h <;> cases h
theorem dlOk_1 {r : Nat} {dl : List Nat} {hf : Hp} (h : dlOk dl hf) : dlOk (r :: dl) ((r, .deferred) :: hf) := by
  refine ⟨by simp [hget], ?_⟩
  have : hdel ((r, AObj.deferred) :: hf) r = hf := by simp [hdel]
  rw [this]; exact h
end Go.Fw
namespace Go.Fw
variable [Gl]
variable {P : Program} {ρr : Option Nat} {n nb : Nat} {Q : LPo} {arr : Array Oper} {o : Oper} {os : List Oper} {κ : List Kt} {kn : Kn} {m : Fl} {h hf : Hp} {nx : Nat} {dl : List Nat}
end Go.Fw
end

section
namespace Go.Fw
variable [Gl]
variable {P : Program} {ρr : Option Nat} {n nb : Nat} {Q : LPo} {arr : Array Oper} {o : Oper} {os : List Oper} {κ : List Kt} {kn : Kn} {m : Fl} {h hf : Hp} {nx : Nat} {dl : List Nat} {fu : Nat} {L : List Nat} {K : KD} {i : Nat}
end Go.Fw
namespace Go.Fw
variable [Gl]
end Go.Fw
end

section
namespace Go.Fw
variable [Gl]
variable {P : Program} {ρ ρr : Option Nat} {n nb : Nat} {Q : LPo} {arr : Array Oper} {o : Oper} {os : List Oper} {κ : List Kt} {kn : Kn} {m : Fl} {t : Fr} {h hf : Hp} {nx : Nat} {dl : List Nat} {K : V → Hp → Prop}
def isSlO (P : Program) (m : Fl) (o : Oper) : Option (Nat × Nat × Nat × Nat × Nat × Option Int × Option Int) := match o.op with
  | .slice T x lo hi none => match evX m x with
    | some (.slice b off len cap) => match tslice P T with
      | some e => match tsz P e with
        | some k => match evI m lo with
          | some l => match evI m hi with
            | some r => some (b, off, len, cap, k, l, r)
            | none => none
          | none => none
        | none => none
      | none => none
    | _ => none
  | _ => none
theorem eva_slO {b off len cap k : Nat} {lo hi : Option Int} (l r : Nat) (hl : lo.getD ((0 : Nat) : Int) = (l : Int)) (hr : hi.getD (len : Int) = (r : Int)) (h1 : l ≤ r) (h2 : r ≤ cap) (hc : isSlO P m o = some (b, off, len, cap, k, lo, hi)) :
    EvA P m o (.slice b (if cap = l then off else off + l * k) (r - l) (cap - l)) := by
  intro ρ h ht
  unfold isSlO at hc
  split at hc
  · rename_i hop
    split at hc
    · rename_i hx
      split at hc
      · rename_i hT
        split at hc
        · rename_i hz
          split at hc
          · rename_i hlo
            split at hc
            · rename_i hhi
              simp only [Option.some.injEq, Prod.mk.injEq] at hc
              obtain ⟨rfl, rfl, rfl, rfl, rfl, rfl, rfl⟩ := hc
              obtain ⟨q1, e1, g1⟩ := evI_B (ρ := ρ) 0 hlo hl
              obtain ⟨q2, e2, g2⟩ := evI_B (ρ := ρ) _ hhi hr
              have e3 : evB (renT ρ m) none = some none := rfl
              obtain ⟨c, hcb⟩ := evX_vld ht hx
              simp only [evP, hop, evX_ren hx, renV, hcb, e1, e2, e3, evSlice, hT, hz, g1, g2, Option.getD_none]
              rw [if_pos ⟨.inl trivial, h1, h2, Nat.le_refl _⟩]
            · simp at hc
          · simp at hc
        · simp at hc
      · simp at hc
    · simp at hc
  · simp at hc
theorem Safe.slO {d : Nat} {dr : Dr} {b off len cap k : Nat} {lo hi : Option Int} (l r : Nat) (h1 : l ≤ r) (h2 : r ≤ cap) (hc : isSlO P m o = some (b, off, len, cap, k, lo, hi)) (hl : lo.getD ((0 : Nat) : Int) = (l : Int)) (hr : hi.getD (len : Int) = (r : Int)) (hrd : rdyO arr kn m n o = some d)
    (hs : Safe nb P ρr n Q (.ops arr dr.nx os κ ((d, none) :: kn) ((d, .slice b (if cap = l then off else off + l * k) (r - l) (cap - l)) :: m) h nx hf dl)) (hck : ckA h (.slice b (if cap = l then off else off + l * k) (r - l) (cap - l)) dr = true := by rfl) : Safe nb P ρr n Q (.ops arr dr (o :: os) κ kn m h nx hf dl) := Safe.valA (eva_slO l r hl hr h1 h2 hc) hrd hs hck
theorem cat_put {α : Type} {enc : α → List V} {k : Nat} (hk : ∀ x, (enc x).length = k) {R : List α} {i : Nat} (hi : i < R.length) (v : α) : putL (cat enc R) (i * k) (enc v) = cat enc (R.set i v) := by
  unfold putL
  have e : i * k + (enc v).length = (i + 1) * k := by rw [hk, Nat.add_mul, Nat.one_mul]
  rw [e, cat_take hk, cat_drop hk, List.set_eq_take_append_cons_drop, if_pos hi, cat_append, cat_cons, List.append_assoc]
end Go.Fw
end

section
namespace Go.Fw
variable [Gl]
variable {P : Program} {ρr : Option Nat} {n nb : Nat} {Q : LPo} {arr : Array Oper} {o : Oper} {os : List Oper} {κ : List Kt} {kn : Kn} {m : Fl} {h hf : Hp} {nx : Nat} {dl : List Nat}
variable {fu : Nat} {L : List Nat} {K : KD} {i : Nat}
end Go.Fw
end

section
namespace Go.Fw
variable [Gl]
variable {P : Program} {ρr : Option Nat} {n nb : Nat} {Q : LPo} {arr : Array Oper} {o : Oper} {os : List Oper} {κ : List Kt} {kn : Kn} {m : Fl} {h hf : Hp} {nx : Nat} {dl : List Nat}
theorem Safe.capO {d : Nat} {T e : TypeId} {a : Operand} {b o' len c : Nat} (hop : o.op = .call { callee := .builtin .cap, args := #[a], argTypes := #[T] }) (hT : tslice P T = some e) (ha : evX m a = some (.slice b o' len c)) (hr : rdyO arr kn m n o = some d)
    (hs : Safe nb P ρr n Q (.ops arr .no os κ ((d, none) :: kn) ((d, .int .i64 c) :: m) h nx hf dl)) : Safe nb P ρr n Q (.ops arr .no (o :: os) κ kn m h nx hf dl) := by
  refine Safe.op hr (LS.real fun ρ hg hn ht => ?_)
  obtain ⟨q, hq⟩ := evX_vld ht ha
  have ha' := evX_ren (ρ := ρ) ha
  simp only [renV, hq] at ha'
  exact OpS.cap hop hT ha' ⟨ρ, .int .i64 c, h, nx, hf, agr.refl _ _, hg, by rw [renT_pu]; exact Ent.refl _ _, hs⟩
theorem zcells_dry {z : List V} (hz : z.all dry = true) (k : Nat) : (zcells z k).all dry = true := by
  rw [List.all_eq_true]
  intro v hv
  simp only [zcells, List.mem_map] at hv
  obtain ⟨i, _, rfl⟩ := hv
  rw [List.getD_eq_getElem?_getD]
  cases h : z[i % z.length]? with
  | none => rfl
  | some u => exact List.all_eq_true.1 hz u (List.mem_of_getElem? h)
theorem Safe.appZ {d k by_ len cap j p o' nn : Nat} {sT e xT : TypeId} {a b : Operand} {T : TypeId} {z cs : List V} {kn' kx : IntKind} {J : Int} (hop : o.op = .call { callee := .builtin .append, args := #[a, b], argTypes := #[sT, xT] }) (he : elemE P sT = some (e, k, by_, z)) (hxT : P.underlying xT = some (.int kn'))
    (ha : evX m a = some (.slice p o' len cap)) (hb : evX m b = some (.int kx J)) (hJ : J = (j : Nat)) (hg : hget h p = some (.cells T cs nn)) (hl : o' + len * k ≤ cs.length) (hcap : cap < len + j) (hj : 0 < j) (hbd : len + j ≤ 100000000) (hzd : z.all dry = true) (hr : rdyO arr kn m n o = some d)
    (hs : ∀ N', len + j ≤ N' → Safe nb P ρr n Q (.ops arr .no os κ ((d, none) :: kn) ((d, .slice nx 0 (len + j) N') :: m) ((nx, .cells e ((cs.drop o').take (len * k) ++ zcells z (j * k)) (N' * k)) :: h) (nx + 1) hf dl)) :
    Safe nb P ρr n Q (.ops arr .no (o :: os) κ kn m h nx hf dl) := by
  subst hJ
  have hbd2 := bnd_app (elemE_b he) hbd
  refine Safe.op hr (LS.real fun ρ hg2 hn ht => ?_)
  obtain ⟨c, hc⟩ := evX_vld ht ha
  have ha' := evX_ren (ρ := ρ) ha
  have hg' := hget_ren (ρ := ρ) hg hn
  rw [ky_eq hc] at hg'
  simp only [renV, hc] at ha'
  refine OpS.append_zeros ⟨hop⟩ (elemE_ok he) hxT ha' (evX_ren hb) hg' (by rw [renL_length]; exact hl) hcap hj hbd2 fun q N' hq hN' => ?_
  have e1 : ((renL ρ cs).drop o').take (len * k) ++ zcells z (j * k) = renL ρ ((cs.drop o').take (len * k) ++ zcells z (j * k)) := by
    rw [renL_drop, renL_take, renL_append, dryL_ren ρ (zcells_dry hzd _)]
  rw [e1]
  have hod := rdyO_dst hr
  have := ent_new (b := q) (mkl := .slice nx 0 (len + j) N') (obl := .cells e ((cs.drop o').take (len * k) ++ zcells z (j * k)) (N' * k)) (d := o.dst) (hf := hf) (m := m) (hg2.fresh nx (Nat.le_refl _)) hg2.keys
  simp only [renV, rex, if_pos, renO] at this
  exact ⟨rex ρ nx q, .slice nx 0 (len + j) N', (nx, .cells e ((cs.drop o').take (len * k) ++ zcells z (j * k)) (N' * k)) :: h, nx + 1, hf, agr_rex hg2.base q, hg2.push q _, this, hs N' hN'⟩
theorem Safe.cpS {d k l2 c2 o2 p2 nn2 len cap p o' nn : Nat} {sT e xT : TypeId} {a b : Operand} {T T2 : TypeId} {cs cs2 : List V} (hop : o.op = .call { callee := .builtin .copy, args := #[a, b], argTypes := #[sT, xT] }) (hsl : tslice P sT = some e) (hsz : tsz P e = some k)
    (ha : evX m a = some (.slice p o' len cap)) (hb : evX m b = some (.slice p2 o2 l2 c2)) (hg : hget h p = some (.cells T cs nn)) (hg2 : hget h p2 = some (.cells T2 cs2 nn2)) (hr : rdyO arr kn m n o = some d)
    (hl2 : o2 + (min l2 len) * k ≤ cs2.length) (hl : o' ≤ cs.length) (hln : o' + (min l2 len) * k ≤ nn) (hlf : ((cs2.drop o2).take ((min l2 len) * k)).all leafV = true)
    (hs : Safe nb P ρr n Q (.ops arr .no os κ ((d, none) :: kn) ((d, .int .i64 (min l2 len : Nat)) :: m) (hset h p (.cells T (putL cs o' ((cs2.drop o2).take ((min l2 len) * k))) nn)) nx hf dl)) :
    Safe nb P ρr n Q (.ops arr .no (o :: os) κ kn m h nx hf dl) := by
  refine Safe.op hr (LS.real fun ρ gd hn ht => ?_)
  obtain ⟨c, hc⟩ := evX_vld ht ha
  obtain ⟨c', hc'⟩ := evX_vld ht hb
  have ha' := evX_ren (ρ := ρ) ha
  have hb' := evX_ren (ρ := ρ) hb
  simp only [renV, hc] at ha'
  simp only [renV, hc'] at hb'
  have hg' := hget_ren (ρ := ρ) hg hn
  have hg2' := hget_ren (ρ := ρ) hg2 hn
  rw [ky_eq hc] at hg'
  rw [ky_eq hc'] at hg2'
  simp only [renO] at hg' hg2'
  refine OpS.copyS ⟨hop⟩ hsl hsz ha' hb' hg' hg2' (by rw [renL_length]; exact hl2) (by rw [renL_length]; exact hl) hln (by rw [renL_drop, renL_take]; exact all_leaf_ren hlf) ?_
  have hset' := hset_ren (ρ := ρ) (hf := hf) (o' := .cells T (putL cs o' ((cs2.drop o2).take ((min l2 len) * k))) nn) hg hn
  rw [ky_eq hc] at hset'
  refine ⟨ρ, .int .i64 (min l2 len : Nat), _, nx, hf, agr.refl _ _, hset_keys gd, ?_, hs⟩
  rw [renT_pu, ← hset', renO, renL_drop, renL_take, putL_ren]
  exact Ent.refl _ _
theorem Safe.ovl {d : Nat} {f : FuncId} {tS tR e : TypeId} {k b1 l1 c1 b2 o2 l2 c2 n1 n2 : Nat} {T1 T2 : TypeId} {cs1 cs2 : List V} (hv : IsOverlaps P f tS tR e k) (hc : callee? m o = some (f, [.slice b1 0 l1 c1, .slice b2 o2 l2 c2])) (hr : rdyO arr kn m n o = some d)
    (hv1 : ∀ ρ, vldT ρ m → ∃ q1 q2, ρ b1 = some q1 ∧ ρ b2 = some q2) (h1 : hget h b1 = some (.cells T1 cs1 n1)) (h2 : hget h b2 = some (.cells T2 cs2 n2)) (hn1 : 0 < n1) (hn2 : 0 < n2) (hnn : n1 ≠ n2) (hT1 : T1 ≠ 5)
    (hs : Safe nb P ρr n Q (.ops arr .no os κ ((d, none) :: kn) ((d, .bool false) :: m) h nx hf dl)) : Safe nb P ρr n Q (.ops arr .no (o :: os) κ kn m h nx hf dl) := by
  refine Safe.callS hc hr fun ρ hg hn ht => ?_
  obtain ⟨q1, q2, e1, e2⟩ := hv1 ρ ht
  have g1 := hget_ren (ρ := ρ) h1 hn
  have g2 := hget_ren (ρ := ρ) h2 hn
  rw [ky_eq e1] at g1
  rw [ky_eq e2] at g2
  simp only [renL, renV, e1, e2]
  simp only [renO] at g1 g2
  have hne : q1 ≠ q2 := fun e => by
    subst e
    rw [g1] at g2
    simp only [Option.some.injEq, AObj.cells.injEq] at g2
    exact hnn g2.2.2
  exact CallS.overlaps hv hne g1 g2 hn1 hn2 hT1 ⟨ρ, .bool false, h, nx, hf, agr.refl _ _, hg, by rw [renT_pu]; exact Ent.refl _ _, hs⟩
theorem eva_slN {T e : TypeId} {x : Operand} {lo : Option Operand} {k : Nat} {l : Option Int} (hop : o.op = .slice T x lo none none) (hx : evX m x = some .nilslice) (hT : tslice P T = some e) (hk : tsz P e = some k) (hlo : evI m lo = some l) (hl : l.getD ((0 : Nat) : Int) = ((0 : Nat) : Int)) : EvA P m o .nilslice := by
  intro ρ h ht
  obtain ⟨q1, e1, g1⟩ := evI_B (ρ := ρ) 0 hlo hl
  have e3 : evB (renT ρ m) none = some none := rfl
  simp only [evP, hop, evX_ren hx, renV, e1, e3, evSlice, hT, hk, g1, Option.getD_none]
  simp
theorem Safe.slN {d : Nat} {dr : Dr} {T e : TypeId} {x : Operand} {lo : Option Operand} {k : Nat} {l : Option Int} (hop : o.op = .slice T x lo none none) (hx : evX m x = some .nilslice) (hT : tslice P T = some e) (hk : tsz P e = some k) (hlo : evI m lo = some l) (hl : l.getD ((0 : Nat) : Int) = ((0 : Nat) : Int)) (hrd : rdyO arr kn m n o = some d)
    (hs : Safe nb P ρr n Q (.ops arr dr.nx os κ ((d, none) :: kn) ((d, .nilslice) :: m) h nx hf dl)) (hck : ckA h .nilslice dr = true := by rfl) : Safe nb P ρr n Q (.ops arr dr (o :: os) κ kn m h nx hf dl) := Safe.valA (eva_slN hop hx hT hk hlo hl) hrd hs hck
end Go.Fw
end

section
namespace Go.Fw
variable [Gl]
variable {P : Program} {ρr : Option Nat} {n nb : Nat} {Q : LPo} {arr : Array Oper} {o : Oper} {os : List Oper} {κ : List Kt} {kn : Kn} {m : Fl} {h hf : Hp} {nx : Nat} {dl : List Nat}
end Go.Fw
end

section
namespace Go.Fw
variable [Gl]
variable {P : Program} {ρr : Option Nat} {n nb : Nat} {Q : LPo} {arr : Array Oper} {o : Oper} {os : List Oper} {κ : List Kt} {kn : Kn} {m : Fl} {h hf : Hp} {nx : Nat} {dl : List Nat}
theorem ent_frL {ρ ρ' : Nat → Option Nat} (hr : rle ρ ρ') (M : Fl) (H : Hp) : Ent (renT ρ M) H (renT ρ' M) H := fun F w k tm ho hfr => ⟨F, ho, ⟨hfr.size, fun i v hv => by
  unfold renT at hv
  simp only [Option.map_eq_some_iff] at hv
  obtain ⟨u, hu, rfl⟩ := hv
  obtain ⟨x, hx, r⟩ := hfr.at_ i (renV ρ u) (by simp [renT, hu])
  exact ⟨x, hx, renV_le hr u r⟩⟩, Trans.refl _ _ _⟩
theorem rle_of {ρ ρ' : Nat → Option Nat} (hf : ∀ k, nx ≤ k → ρ k = none) (a : agr nx ρ ρ') : rle ρ ρ' := fun k c hk => by
  have hlt : k < nx := Nat.lt_of_not_le fun h => by rw [hf k h] at hk; cases hk
  rw [a k hlt, hk]
def RndC (nx nx2 : Nat) (hf : Hp) {α : Type} (hp : α → Hp) (I : α → Prop) (B : Code → α → Prop) : LPo := fun e m2 h2 nx3 hf2 _ => hf2 = hf ∧ ∃ b sg, (match e with
    | .normal => I b
    | .ret => B .ret b
    | .exit id => B (.exit id) b
    | .goto l => B (.goto l) b
    | _ => False) ∧ Rel nx sg m2 h2 nx3 [] (hp b) nx2
theorem Safe.rangeC {α : Type} {g : Operand} {ps : Array Tmp} {asg body : Code} {f : FuncId} {caps : List V} {xs : List (List V)} (nx2 : Nat) (hp : α → Hp) (I : Nat → α → Prop) (B : Code → α → Prop) (a0 : α)
    (hit : IterC P f caps xs) (hg : evX m g = some (.clo f caps)) (hgo : (isGo P f && caps.all dryV1 && ps.toList.all (fun p => Nat.blt p n) && Nat.ble nx nx2) = true) (hxs : ∀ a, a ∈ xs → a.length = ps.size ∧ a.all dry = true) (h0 : h = hp a0) (hI : I 0 a0)
    (round : ∀ l k (hk : k < xs.length) b, I k b → Safe nx P (some l) n (AsgQ nx P l n body (RndC nx nx2 hf hp (I (k + 1)) B)) (.code asg [] [] (bindL ps.toList xs[k] m) (hp b) nx2 hf []))
    (hend : ∀ r b, I xs.length b → Safe nb P none n Q (lv .normal κ [] m (hp b) nx2 ((r, .deferred) :: hf) (r :: dl)))
    (hjump : ∀ r b c, B c b → Safe nb P none n Q (.code c κ [] m (hp b) nx2 ((r, .deferred) :: hf) (r :: dl))) :
    Safe nb P none n Q (.code (.rangeFunc g ps asg body) κ kn m h nx hf dl) := by
  subst h0
  simp only [Bool.and_eq_true] at hgo
  have hnx := Nat.le_of_ble_eq_true hgo.2
  replace hgo := hgo.1
  intro hk ρ hgd
  have he := evX_ren (ρ := ρ) hg
  rw [renV, dryL1_ren ρ hgo.1.2] at he
  have hperm : ∀ (r : Nat) (X : Hp), (X ++ (r, AObj.deferred) :: hf).Perm ((r, AObj.deferred) :: (X ++ hf)) := fun r X => List.perm_middle
  refine WC.range (fun k h' => ∃ b ρ', I k b ∧ agr nx ρ ρ' ∧ good nx ρ' nx2 (hp b) ∧ h' = renH ρ' (hp b) ++ hf) (fun c h' => ∃ b ρ', B c b ∧ agr nx ρ ρ' ∧ good nx ρ' nx2 (hp b) ∧ h' = renH ρ' (hp b) ++ hf) he hgo.1.1 hit (fun p hp => blt_lt (List.all_eq_true.1 hgo.2 p hp)) (fun a ha => (hxs a ha).1)
    ⟨a0, ρ, hI, agr.refl _ _, ⟨fun k hk => hgd.fresh k (by omega), hgd.keys, hnx⟩, rfl⟩ ?_ ?_ ?_
  · rintro l k hkl h' ⟨b, ρ', hb, ha, hgd', rfl⟩
    rw [bindL_ren ρ _ _ _ (hxs _ (List.getElem_mem hkl)).2]
    refine WC.ent (ent_frL (rle_of hgd.fresh ha) _ _) ?_
    have hr := round l k hkl b hb knNil ρ' hgd'
    refine hr.mono ?_
    rintro e t' h' dl' ⟨ρ1, m', h2, nx', hf', a, gd, en, q⟩
    cases e with
    | normal =>
      refine WC.ent en (WC.post ((q knNil ρ1 gd).mono ?_))
      rintro e t3 h3 dl3 ⟨ρ2, m3, h4, nx3, hf3, a2, g2, en2, q2⟩
      obtain ⟨rfl, b2, sg, hq, hrel⟩ := q2
      obtain ⟨a3, g3, en3⟩ := hrel.ent g2 hf3
      refine ⟨_, _, en2.trans en3, ?_⟩
      have ha3 := ((ha.trans a).trans a2).trans a3
      cases e with
      | normal => exact ⟨b2, _, hq, ha3, g3, rfl⟩
      | ret => exact ⟨b2, _, hq, ha3, g3, rfl⟩
      | exit id => exact ⟨b2, _, hq, ha3, g3, rfl⟩
      | goto l => exact ⟨b2, _, hq, ha3, g3, rfl⟩
      | _ => exact hq.elim
    | _ => exact q.elim
  · rintro r h' hr ⟨b, ρ', hb, ha, hgd', rfl⟩
    have hs := lv_sound (nb := nb) (P := P) (ρr := none) (n := n) (Q := Q) κ .normal knNil (hend r b hb)
    exact ⟨ρ', m, hp b, nx2, _, fun k hk => ha k (Nat.lt_of_lt_of_le hk hgd.base), ⟨hgd'.fresh, hgd'.keys, Nat.le_trans hgd.base hnx⟩, (ent_frL (rle_of hgd.fresh ha) _ _).trans (Ent.perm (hperm r _)), hs⟩
  · rintro r h' c hr ⟨b, ρ', hb, ha, hgd', rfl⟩
    refine WC.ent ((ent_frL (rle_of hgd.fresh ha) _ _).trans (Ent.perm (hperm r _))) ((hjump r b c hb knNil ρ' ⟨hgd'.fresh, hgd'.keys, Nat.le_trans hgd.base hnx⟩).mono ?_)
    rintro e t4 h5 dl4 ⟨ρ4, m4, h6, nx4, hf4, a4, g4, en4, q4⟩
    exact ⟨ρ4, m4, h6, nx4, hf4, fun k hk => by rw [a4 k hk, ha k (Nat.lt_of_lt_of_le hk hgd.base)], g4, en4, q4⟩
theorem okT_ren {ρ ρ' : Nat → Option Nat} {ks : List Nat} (hk : ∀ k, ks.contains k = true → ρ' k = ρ k) {M : Fl} (h : okM ks M = true) : renT ρ' M = renT ρ M := by
  funext i
  unfold renT
  cases hl : lk M i with
  | none => rfl
  | some v =>
    simp only [Option.map_some]
    congr 1
    refine okV_ren hk v ?_
    unfold okM at h
    induction M with
    | nil => simp [lk] at hl
    | cons p r ih =>
      simp only [List.all_cons, Bool.and_eq_true] at h
      simp only [lk] at hl
      cases hb : Nat.beq i p.1 with
      | true => rw [hb] at hl; simp only [cond_true, Option.some.injEq] at hl; rw [← hl]; exact h.1
      | false => rw [hb] at hl; exact ih h.2 hl
theorem range_mem {n k : Nat} (h : (List.range n).contains k = true) : k < n := by simpa using h
theorem Safe.rangeD {α : Type} {g : Operand} {ps : Array Tmp} {asg body : Code} {f : FuncId} {caps : List V} {xs : List (List V)} (nb1 nx2 : Nat) (hp : α → Hp) (I : Nat → α → Prop) (B : Code → α → Prop) (a0 : α)
    (hit : IterC P f caps xs) (hg : evX m g = some (.clo f caps)) (hgo : (isGo P f && caps.all dryV1 && ps.toList.all (fun p => Nat.blt p n) && Nat.ble nx nx2 && Nat.ble nb nb1 && Nat.ble nb1 nx2 && okM (List.range nb1) m) = true) (hxs : ∀ a, a ∈ xs → a.length = ps.size ∧ a.all dry = true) (h0 : h = hp a0) (hI : I 0 a0)
    (round : ∀ l k (hk : k < xs.length) b, I k b → Safe nb1 P (some l) n (AsgQ nb1 P l n body (RndC nb1 nx2 hf hp (I (k + 1)) B)) (.code asg [] [] (bindL ps.toList xs[k] m) (hp b) nx2 hf []))
    (hend : ∀ r b, I xs.length b → Safe nb P none n Q (lv .normal κ [] m (hp b) nx2 ((r, .deferred) :: hf) (r :: dl)))
    (hjump : ∀ r b c, B c b → Safe nb P none n Q (.code c κ [] m (hp b) nx2 ((r, .deferred) :: hf) (r :: dl))) :
    Safe nb P none n Q (.code (.rangeFunc g ps asg body) κ kn m h nx hf dl) := by
  subst h0
  simp only [Bool.and_eq_true] at hgo
  obtain ⟨⟨⟨⟨hgo, h1⟩, h2⟩, h3⟩, hokm⟩ := hgo
  have hnx := Nat.le_of_ble_eq_true h1
  have hnb := Nat.le_of_ble_eq_true h2
  have hnb1 := Nat.le_of_ble_eq_true h3
  intro hk ρ hgd
  have he := evX_ren (ρ := ρ) hg
  rw [renV, dryL1_ren ρ hgo.1.2] at he
  have hperm : ∀ (r : Nat) (X : Hp), (X ++ (r, AObj.deferred) :: hf).Perm ((r, AObj.deferred) :: (X ++ hf)) := fun r X => List.perm_middle
  have hT : ∀ {ρ' : Nat → Option Nat}, agr nb1 ρ ρ' → renT ρ' m = renT ρ m := fun a => okT_ren (fun k hk => a k (range_mem hk)) hokm
  refine WC.range (fun k h' => ∃ b ρ', I k b ∧ agr nb1 ρ ρ' ∧ good nb1 ρ' nx2 (hp b) ∧ h' = renH ρ' (hp b) ++ hf) (fun c h' => ∃ b ρ', B c b ∧ agr nb1 ρ ρ' ∧ good nb1 ρ' nx2 (hp b) ∧ h' = renH ρ' (hp b) ++ hf) he hgo.1.1 hit (fun p hp => blt_lt (List.all_eq_true.1 hgo.2 p hp)) (fun a ha => (hxs a ha).1)
    ⟨a0, ρ, hI, agr.refl _ _, ⟨fun k hk => hgd.fresh k (by omega), hgd.keys, hnb1⟩, rfl⟩ ?_ ?_ ?_
  · rintro l k hkl h' ⟨b, ρ', hb, ha, hgd', rfl⟩
    rw [← hT ha, bindL_ren ρ' _ _ _ (hxs _ (List.getElem_mem hkl)).2]
    have hr := round l k hkl b hb knNil ρ' hgd'
    refine hr.mono ?_
    rintro e t' h' dl' ⟨ρ1, m', h2, nx', hf', a, gd, en, q⟩
    cases e with
    | normal =>
      refine WC.ent en (WC.post ((q knNil ρ1 gd).mono ?_))
      rintro e t3 h3 dl3 ⟨ρ2, m3, h4, nx3, hf3, a2, g2, en2, q2⟩
      obtain ⟨rfl, b2, sg, hq, hrel⟩ := q2
      obtain ⟨a3, g3, en3⟩ := hrel.ent g2 hf3
      refine ⟨_, _, en2.trans en3, ?_⟩
      have ha3 := ((ha.trans a).trans a2).trans a3
      cases e with
      | normal => exact ⟨b2, _, hq, ha3, g3, rfl⟩
      | ret => exact ⟨b2, _, hq, ha3, g3, rfl⟩
      | exit id => exact ⟨b2, _, hq, ha3, g3, rfl⟩
      | goto l => exact ⟨b2, _, hq, ha3, g3, rfl⟩
      | _ => exact hq.elim
    | _ => exact q.elim
  · rintro r h' hr ⟨b, ρ', hb, ha, hgd', rfl⟩
    have hs := lv_sound (nb := nb) (P := P) (ρr := none) (n := n) (Q := Q) κ .normal knNil (hend r b hb)
    refine ⟨ρ', m, hp b, nx2, _, fun k hk => ha k (by omega), ⟨hgd'.fresh, hgd'.keys, Nat.le_trans hgd.base hnx⟩, ?_, hs⟩
    rw [← hT ha]
    exact Ent.perm (hperm r _)
  · rintro r h' c hr ⟨b, ρ', hb, ha, hgd', rfl⟩
    rw [← hT ha]
    refine WC.ent (Ent.perm (hperm r _)) ((hjump r b c hb knNil ρ' ⟨hgd'.fresh, hgd'.keys, Nat.le_trans hgd.base hnx⟩).mono ?_)
    rintro e t4 h5 dl4 ⟨ρ4, m4, h6, nx4, hf4, a4, g4, en4, q4⟩
    exact ⟨ρ4, m4, h6, nx4, hf4, fun k hk => by rw [a4 k hk, ha k (by omega)], g4, en4, q4⟩
end Go.Fw
end
