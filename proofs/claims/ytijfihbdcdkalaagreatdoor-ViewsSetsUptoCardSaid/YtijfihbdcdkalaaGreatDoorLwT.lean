/- A part of the proof: LwT -/
import Derived.Test.YtijfihbdcdkalaaGreatDoorLwS
set_option linter.all false
set_option linter.unusedSectionVars false
set_option linter.unusedVariables false
set_option linter.unusedSimpArgs false
namespace Go.Fw
variable [Gl]
variable {P : Program} {ρr : Option Nat} {n nb : Nat} {Q : LPo} {arr : Array Oper} {o : Oper} {os : List Oper} {κ : List Kt} {kn : Kn} {m : Fl} {h hf : Hp} {nx : Nat} {dl : List Nat} {dr : Dr}
def tzL (P : Program) (T : TypeId) (k : Nat) : Bool := match tzero P T with
  | some z => Nat.beq z.length k
  | none => false
theorem tzL_ok {T : TypeId} {k : Nat} (h : tzL P T k = true) : ∃ z, tzero P T = some z ∧ z.length = k ∧ z.all dryV1 = true := by
  unfold tzL at h
  split at h
  · rename_i z hz; exact ⟨z, hz, Nat.eq_of_beq_eq_true h, tzero_dry hz⟩
  · simp at h
theorem Safe.allocB {d k : Nat} {T : TypeId} (hz : tzL P T k = true) (hop : o.op = .alloc T) (hr : rdyO arr kn m n o = some d)
    (hs : ∀ cs : List V, cs.length = k → cs.all dryV1 = true → Safe nb P ρr n Q (.ops arr .no os κ ((d, none) :: kn) ((d, .ptr nx 0) :: m) ((nx, .cells T cs k) :: h) (nx + 1) hf dl)) : Safe nb P ρr n Q (.ops arr .no (o :: os) κ kn m h nx hf dl) := by
  obtain ⟨z, hz1, hz2, hz3⟩ := tzL_ok hz
  refine Safe.op hr (LS.new (mk := fun b => .ptr b 0) (mkl := .ptr nx 0) (obl := .cells T z k) (fun ρ b => by simp [renV, rex]) (fun ρ K hn ht hw => OpS.alloc hop hz1 ?_) (hs z hz2 hz3))
  intro b hb
  have := hw b hb
  rw [renO, dryL1_ren ρ hz3, ← hz2] at this
  exact this
def bldB (P : Program) (m : Fl) (o : Oper) (k : Nat) : Bool := match o.op with
  | .build _ _ => match xP P m [] o with
    | some (.agg cs) => Nat.beq cs.length k && cs.all dryV1
    | _ => false
  | _ => false
theorem dryL1_dry {l : List V} (h : l.all dryV1 = true) : l.all dry = true := List.all_eq_true.2 fun v hv => dry1_dry (List.all_eq_true.1 h v hv)
theorem dryL1_leaf {l : List V} (h : l.all dryV1 = true) : l.all leafV = true := List.all_eq_true.2 fun v hv => by
  have := List.all_eq_true.1 h v hv
  cases v <;> simp_all [dryV1, leafV]
theorem Safe.buildB {d k : Nat} (hb : bldB P m o k = true) (hr : rdyO arr kn m n o = some d)
    (hs : ∀ cs : List V, cs.length = k → cs.all dryV1 = true → Safe nb P ρr n Q (.ops arr .no os κ ((d, none) :: kn) ((d, .agg cs) :: m) h nx hf dl)) : Safe nb P ρr n Q (.ops arr .no (o :: os) κ kn m h nx hf dl) := by
  unfold bldB at hb
  split at hb
  · rename_i T ps hop
    split at hb
    · rename_i cs hx
      simp only [Bool.and_eq_true] at hb
      refine Safe.val (v := .agg cs) (fun ρ hn ht => ?_) hr (hs cs (Nat.eq_of_beq_eq_true hb.1) hb.2)
      have hx2 : xP P m h o = some (.agg cs) := by
        unfold xP at hx ⊢
        simp only [hop] at hx ⊢
        exact hx
      exact xP_ren ht hx2 hn
    · simp at hb
  · simp at hb
def bldN (P : Program) (m : Fl) (o : Oper) (k : Nat) : Bool := match o.op with
  | .build _ _ => match xP P m [] o with
    | some (.agg cs) => Nat.beq cs.length (k + 1) && cs.all dryV1 && (match cs[k]? with
      | some .nilslice => true
      | _ => false)
    | _ => false
  | _ => false
theorem Safe.buildN {d k : Nat} (hb : bldN P m o k = true) (hr : rdyO arr kn m n o = some d)
    (hs : ∀ cs : List V, cs.length = k → cs.all dryV1 = true → Safe nb P ρr n Q (.ops arr .no os κ ((d, none) :: kn) ((d, .agg (cs ++ [.nilslice])) :: m) h nx hf dl)) : Safe nb P ρr n Q (.ops arr .no (o :: os) κ kn m h nx hf dl) := by
  unfold bldN at hb
  split at hb
  · rename_i T ps hop
    split at hb
    · rename_i cs hx
      simp only [Bool.and_eq_true] at hb
      obtain ⟨⟨h1, h2⟩, h3⟩ := hb
      have h1 := Nat.eq_of_beq_eq_true h1
      split at h3
      · rename_i hl
        have e : cs = cs.take k ++ [.nilslice] := by
          have hk : k < cs.length := by omega
          have e1 : cs[k] = .nilslice := by rw [List.getElem?_eq_getElem hk] at hl; exact Option.some.inj hl
          conv => lhs; rw [← List.take_append_drop k cs]
          rw [List.drop_eq_getElem_cons hk, e1, List.drop_of_length_le (by omega)]
        have h4 : (cs.take k).all dryV1 = true := List.all_eq_true.2 fun v hv => List.all_eq_true.1 h2 v (List.mem_of_mem_take hv)
        have := hs (cs.take k) (by simp; omega) h4
        rw [← e] at this
        refine Safe.val (v := .agg cs) (fun ρ hn ht => ?_) hr this
        have hx2 : xP P m h o = some (.agg cs) := by
          unfold xP at hx ⊢
          simp only [hop] at hx ⊢
          exact hx
        exact xP_ren ht hx2 hn
      · simp at h3
    · simp at hb
  · simp at hb
theorem putL_all {cs0 cs : List V} (h : cs.length = cs0.length) : putL cs0 0 cs = cs := by
  unfold putL
  rw [List.take_zero, List.nil_append, List.drop_of_length_le (by omega), List.append_nil]
theorem stL_all {cs0 cs : List V} (h : cs.length = cs0.length) : stL cs0 0 cs = cs := by
  match cs with
  | [] => simp only [stL]; exact putL_all h
  | [v] =>
    match cs0 with
    | [] => simp at h
    | [u] => rfl
    | a :: b :: r => simp at h
  | v :: u :: r => simp only [stL]; exact putL_all h
theorem Safe.storeB {T T' : TypeId} {a x : Operand} {k lab nn : Nat} {cs0 cs : List V} (hsz : tsz P T = some k) (h1 : cs.length = k) (h2 : cs0.length = k) (hlf : cs.all leafV = true) (hop : o.op = .store T a x) (ha : evX m a = some (.ptr lab 0)) (hx : evX m x = some (.agg cs)) (hg : hget h lab = some (.cells T' cs0 nn)) (hr : gdOk arr kn m o = true)
    (hs : Safe nb P ρr n Q (.ops arr .no os κ kn m (hset h lab (.cells T' cs nn)) nx hf dl)) : Safe nb P ρr n Q (.ops arr .no (o :: os) κ kn m h nx hf dl) := by
  refine Safe.stO hop ha hx hg hr (by rw [hsz]; simp only [vcells, h1]) (by simp only [vcells]; omega) hlf ?_
  rw [show vcells (.agg cs) = cs from rfl, stL_all (by omega)]
  exact hs
theorem ldAll {T : TypeId} {k : Nat} {cs : List V} (ht : tagg P T = some true) (hs : tsz P T = some k) (hl : cs.length = k) : ldAt P T cs 0 = some (.agg cs) := by
  unfold ldAt
  simp only [ht, hs]
  rw [if_pos (by omega), List.drop_zero, List.take_of_length_le (by omega)]
theorem ldLast {T : TypeId} {k : Nat} {cs : List V} {v : V} (ht : tagg P T = some false) (hl : cs.length = k) : ldAt P T (cs ++ [v]) k = some v := by
  unfold ldAt
  simp only [ht]
  rw [List.getElem?_append_right (by omega), hl, Nat.sub_self]; rfl
theorem Safe.stB {T T' : TypeId} {a x : Operand} {k off nn : Nat} {cs : List V} {v : V} (hoff : off < cs.length) (hd : cs.all dryV1 = true) (hop : o.op = .store T a x) (ha : evX m a = some (.ptr k off)) (hx : evX m x = some v) (hg : hget h k = some (.cells T' cs nn)) (hr : gdOk arr kn m o = true)
    (hsz : tsz P T = some 1) (hv : (dryV1 v && Nat.beq (vcells v).length 1) = true)
    (hs : ∀ cs' : List V, cs'.length = cs.length → cs'.all dryV1 = true → Safe nb P ρr n Q (.ops arr .no os κ kn m (hset h k (.cells T' cs' nn)) nx hf dl)) : Safe nb P ρr n Q (.ops arr .no (o :: os) κ kn m h nx hf dl) := by
  simp only [Bool.and_eq_true] at hv
  have hl := Nat.eq_of_beq_eq_true hv.2
  have hvc : vcells v = [v] := by cases v <;> simp_all [dryV1, vcells]
  refine Safe.stO hop ha hx hg hr (by rw [hsz, hl]) (by rw [hl]; omega) (by rw [hvc]; have := hv.1; cases v <;> simp_all [dryV1, leafV]) ?_
  rw [hvc]
  refine hs _ (by simp [stL]) ?_
  simp only [stL]
  refine List.all_eq_true.2 fun u hu => ?_
  rcases List.mem_or_eq_of_mem_set hu with h | h
  · exact List.all_eq_true.1 hd u h
  · rw [h]; exact hv.1
theorem Safe.pureF {d : Nat} {v : V} (hd : dry v = true) (hO : ∀ (ρ : Nat → Option Nat) (tt : Fr) (h' : Hp) (K : V → Hp → Prop), vldT ρ m → (∀ x ∈ o.op.operands.toList, evO tt x = evO (renT ρ m) x) → K v h' → OpS P ρr n o tt h' K) (hr : rdyO arr kn m n o = some d)
    (hs : Safe nb P ρr n Q (.ops arr dr.nx os κ ((d, none) :: kn) ((d, v) :: m) h nx hf dl)) (hck : ckC dr = true := by rfl) : Safe nb P ρr n Q (.ops arr dr (o :: os) κ kn m h nx hf dl) := by
  cases dr with
  | no =>
    refine Safe.op hr (LS.real fun ρ hg hn ht => hO ρ _ _ _ ht (fun _ _ => rfl) ?_)
    exact ⟨ρ, v, h, nx, hf, agr.refl _ _, hg, by rw [renT_pu, dry_ren ρ hd]; exact Ent.refl _ _, hs⟩
  | at_ j ck =>
    cases ck with
    | nil => simp [ckC] at hck
    | cons ce ck =>
      intro hdo hk ρ hg hn ht
      obtain ⟨hgd, hdst, hlt⟩ := rdyO_run hk hr
      obtain ⟨ho, hce, hdt⟩ := hdo.tail
      simp only [ckC] at hck
      rw [hce] at hck
      have hw := hs hdt (hk.cons fun b hb => by simp at hb) ρ hg hn (vldT_c ht (vld_dry hd))
      rw [renT_cons, dry_ren ρ hd] at hw
      refine wA.first (S := fun _ => True) (v := v) ho (fun oj t h K _ _ hw => anyS oj t h K hw) _ _ _ _ hck trivial (fun h' _ K' hk' => wStep.sem (dstOk_of hdst hlt) (gd_yes (i := hdO j) (gdL_S hgd)) ?_) ?_
      · exact hO ρ _ _ _ ht (fun x hx => evO_rs hx) ⟨hk', fun _ => hle.refl _⟩
      · rw [hdst]; exact hw
theorem bs_parts {ρ : Nat → Option Nat} {tt : Fr} {T : TypeId} {len : Nat} {parts : Array (Nat × Operand)} {ps : List (Nat × V)} (hop : o.op = .buildSlice T len parts) (hps : evXp m parts.toList = some ps) (hd : ps.all (fun p => dry p.2) = true) (htt : ∀ x ∈ o.op.operands.toList, evO tt x = evO (renT ρ m) x) : evParts tt parts.toList = some ps := by
  have key : ∀ l : List (Nat × Operand), (∀ p ∈ l, evO tt p.2 = evO (renT ρ m) p.2) → evParts tt l = evParts (renT ρ m) l := by
    intro l
    induction l with
    | nil => intro _; rfl
    | cons p r ih => intro h; simp only [evParts, h p (by simp), ih fun q hq => h q (List.mem_cons_of_mem _ hq)]
  rw [key _ fun p hp => htt p.2 (by simp only [hop, Op.operands]; simp; exact ⟨p.1, by simpa using hp⟩), evXp_ren hps]
  congr 1
  conv => rhs; rw [← List.map_id ps]
  refine List.map_congr_left fun p hp => ?_
  rw [dry_ren ρ (List.all_eq_true.1 hd p hp)]; rfl
theorem Safe.bsB1 {d k : Nat} {T e : TypeId} {parts : Array (Nat × Operand)} {cs : List V} (hz : tzL P e k = true) (hsz : tsz P e = some k) (hk : 2 ≤ k ∧ k ≤ 100000) (h1 : cs.length = k) (hd : cs.all dryV1 = true) (hT : tslice P T = some e) (hop : o.op = .buildSlice T 1 parts) (hps : evXp m parts.toList = some [(0, .agg cs)]) (hr : rdyO arr kn m n o = some d)
    (hs : Safe nb P ρr n Q (.ops arr dr.nx os κ ((d, none) :: kn) ((d, .fslice cs 1) :: m) h nx hf dl)) (hck : ckC dr = true := by rfl) : Safe nb P ρr n Q (.ops arr dr (o :: os) κ kn m h nx hf dl) := by
  obtain ⟨z, hz1, hz2, hz3⟩ := tzL_ok hz
  refine Safe.pureF rfl (fun ρ tt h' K ht htt hK => ?_) hr hs hck
  have hzl : (zcells z (1 * k)).length = k := by simp [zcells]
  refine OpS.frz (OpS.buildSlice hop hT hsz hz1 (by omega) (by omega) (bs_parts hop hps (by simp [dry, hd]) htt) (cs := cs) ?_ ?_)
  · simp only [evFill, vcells, Nat.zero_mul]
    rw [if_pos (by constructor <;> omega), putL_all (by omega)]
  · intro b hb
    exact ⟨b, e, cs, _, _, _, rfl, rfl, hK⟩
theorem Safe.bsB2 {d k : Nat} {T e : TypeId} {parts : Array (Nat × Operand)} {cs cs' : List V} (hz : tzL P e k = true) (hsz : tsz P e = some k) (hk : 2 ≤ k ∧ k ≤ 100000) (h1 : cs.length = k) (hd : cs.all dryV1 = true) (h1' : cs'.length = k) (hd' : cs'.all dryV1 = true) (hT : tslice P T = some e) (hop : o.op = .buildSlice T 2 parts) (hps : evXp m parts.toList = some [(0, .agg cs), (1, .agg cs')]) (hr : rdyO arr kn m n o = some d)
    (hs : Safe nb P ρr n Q (.ops arr dr.nx os κ ((d, none) :: kn) ((d, .fslice (cs ++ cs') 2) :: m) h nx hf dl)) (hck : ckC dr = true := by rfl) : Safe nb P ρr n Q (.ops arr dr (o :: os) κ kn m h nx hf dl) := by
  obtain ⟨z, hz1, hz2, hz3⟩ := tzL_ok hz
  refine Safe.pureF rfl (fun ρ tt h' K ht htt hK => ?_) hr hs hck
  have hzl : (zcells z (2 * k)).length = 2 * k := by simp [zcells]
  refine OpS.frz (OpS.buildSlice hop hT hsz hz1 (by omega) (by omega) (bs_parts hop hps (by simp [dry, hd, hd']) htt) (cs := cs ++ cs') ?_ ?_)
  · have e1 : putL (zcells z (2 * k)) 0 cs = cs ++ (zcells z (2 * k)).drop k := by simp [putL, h1]
    have e2 : putL (cs ++ (zcells z (2 * k)).drop k) (1 * k) cs' = cs ++ cs' := by
      unfold putL
      rw [List.take_append_of_le_length (by omega), List.take_of_length_le (by omega), List.drop_of_length_le (by simp; omega), List.append_nil]
    simp only [evFill, vcells, Nat.zero_mul]
    rw [if_pos (by constructor <;> omega), e1, if_pos (by rw [List.length_append, List.length_drop, hzl]; constructor <;> omega), e2]
  · intro b hb
    exact ⟨b, e, cs ++ cs', _, _, _, rfl, rfl, hK⟩
def gV (k len : Nat) : Option Nat → V
  | none => .nilslice
  | some N => .slice k 0 len N
def gH (e : TypeId) (kk k : Nat) (cs : List V) : Option Nat → Hp
  | none => []
  | some N => [(k, .cells e cs (N * kk))]
theorem hget_skip {h1 h2 : Hp} {k : Nat} {o : AObj} (hk : k ∉ h1.ns) : hget (h1 ++ (k, o) :: h2) k = some o ∧ hdel (h1 ++ (k, o) :: h2) k = h1 ++ h2 := by
  induction h1 with
  | nil => simp [hget, hdel]
  | cons p r ih =>
    simp only [Hp.ns_cons, List.mem_cons, not_or] at hk
    obtain ⟨a, b⟩ := ih hk.2
    simp only [List.cons_append, hget, hdel]
    rw [if_neg (fun e => hk.1 e.symm), if_neg (fun e => hk.1 e.symm)]
    exact ⟨a, by rw [b]⟩
theorem Safe.appG {d k kk by_ len mm : Nat} {G : Option Nat} {h1 h2 : Hp} {sT e xT : TypeId} {a b : Operand} {z cs us : List V} {x : V} (he : elemE P sT = some (e, kk, by_, z)) (hk : k ∉ h1.ns) (hG : G = none → cs = [] ∧ len = 0) (hh : h = h1 ++ (gH e kk k cs G ++ h2)) (hop : o.op = .call { callee := .builtin .append, args := #[a, b], argTypes := #[sT, xT] }) (hxT : appT P xT = true)
    (ha : evX m a = some (gV k len G)) (hb : evX m b = some x) (hsrc : ∀ h, evSrc h kk x = some (us, mm)) (hm : 0 < mm) (hr : rdyO arr kn m n o = some d)
    (hlen : cs.length = len * kk) (hud : us.all dry = true) (hlf : us.all leafV = true) (hbd : len + mm ≤ 100000000)
    (hs : ∀ N', len + mm ≤ N' → Safe nb P ρr n Q (.ops arr .no os κ ((d, none) :: kn) ((d, .slice nx 0 (len + mm) N') :: m) ((nx, .cells e (cs ++ us) (N' * kk)) :: (h1 ++ h2)) (nx + 1) hf dl)) :
    Safe nb P ρr n Q (.ops arr .no (o :: os) κ kn m h nx hf dl) := by
  subst hh
  cases G with
  | none =>
    obtain ⟨rfl, rfl⟩ := hG rfl
    refine Safe.appN hop he hxT ha hb (hsrc _) hr hm hud (by omega) fun N' hN' => ?_
    have := hs N' (by omega)
    simpa [gH] using this
  | some N =>
    obtain ⟨g1, g2⟩ := hget_skip (h1 := h1) (h2 := h2) (o := .cells e cs (N * kk)) hk
    refine Safe.appS hop he hxT ha hb (by simpa [gH] using g1) (hsrc _) hr rfl rfl hlen hud hlf hbd fun N' hN' => ?_
    have := hs N' hN'
    simp only [gH, List.singleton_append, g2]
    exact this
def ETri (P : Program) (f : FuncId) (as : List V) (Φ : V → Prop) : Prop := Tri P f as [] fun v h' => h' = [] ∧ dry v = true ∧ Φ v
inductive FinE (P : Program) (rs : List ResultVar) (Φ : V → Prop) : Fl → Hp → Prop where
  | done {m : Fl} {h : Hp} {r : V} (hv : resA P m h rs = some r) (hd : dry r = true) (hq : Φ r) : FinE P rs Φ m h
  | frz {m : Fl} {h : Hp} (k : Nat) {T : TypeId} {cs : List V} {nn : Nat} (hk : hget h k = some (.cells T cs nn)) (hd : cs.all dryV1 = true) (hr : FinE P rs Φ (frzM k cs m) (frzHp k cs (hdel h k))) : FinE P rs Φ m h
def RetE (P : Program) (rs : List ResultVar) (Φ : V → Prop) : LPo := fun e m h nx hf dl => (e = .normal ∨ e = .ret) ∧ dlOk dl hf ∧ FinE P rs Φ m h
theorem FinE.sound {rs : List ResultVar} {Φ : V → Prop} {m : Fl} {h : Hp} (hfin : FinE P rs Φ m h) {ρ : Nat → Option Nat} {nb nx : Nat} (hg : good nb ρ nx h) : ∃ m2 h2 r0, good nb ρ nx h2 ∧ Ent (renT ρ m) (renH ρ h ++ hf) (renT ρ m2) (renH ρ h2 ++ hf) ∧ resA P m2 h2 rs = some r0 ∧ dry r0 = true ∧ Φ r0 := by
  induction hfin with
  | done hv hd hq => exact ⟨_, _, _, hg, Ent.refl _ _, hv, hd, hq⟩
  | frz k hk hd hr ih =>
    obtain ⟨g1, e1⟩ := ent_frz (hf := hf) hg hk hd
    obtain ⟨m2, h2, r0, g2, e2, hv, hd2, hq⟩ := ih g1
    exact ⟨m2, h2, r0, g2, e1.trans e2, hv, hd2, hq⟩
theorem ETri.of_safe {f : FuncId} {fn : Func} {c : Code} {as : List V} {Φ : V → Prop} (hf : P.funcs[f]? = some fn) (hb : fn.body = some c) {rs : Array ResultVar} (hrs : fn.results = rs) (hn : fn.ntmps = n) (hl : (Nat.ble as.length n && as.all dry) = true)
    (hs : Safe 0 P none n (RetE P rs.toList Φ) (.code c [] [] (frm 0 as) [] 0 [] [])) : ETri P f as Φ := by
  simp only [Bool.and_eq_true] at hl
  refine Tri.vent (Φ := fun v _ => dry v = true ∧ Φ v) ?_ (fun v h' e => ⟨v, [], .drop (List.nil_sublist _) (.refl _ _), rfl, e.1, e.2⟩)
  intro F w av ho ha
  subst hrs
  refine callsIn_of_wp_marks hf hb (FW_fn none f) ?_ rfl
  subst hn
  have hs' := hs knNil (fun _ => none) ⟨fun _ _ => rfl, fun p hp => by simp at hp, Nat.zero_le _⟩
  rw [← frA_ren hl.2] at hs'
  refine wpIn_mono (hs' F w _ ho (frA_r ha (Nat.le_of_ble_eq_true hl.1))) ?_
  rintro e ⟨tm, ds⟩ w' ⟨t', h', dl', F', ⟨ρ', m', h2, nx', hf', a, g, en, q⟩, ho', hf'', hd, tr⟩
  simp only at hd hf''
  subst hd
  obtain ⟨he, hdl, hfin⟩ := q
  obtain ⟨m3, h3, r0, g3, e3, hv, hdr, hq⟩ := hfin.sound (hf := hf') g
  obtain ⟨F2, o2, f2, tr2⟩ := (en.trans e3) F' w' fn.ntmps tm ho' hf''
  have hres : ∀ hf : Hp, (renH ρ' h3 ++ hf).ns.Nodup → resAll P fn.results.toList (renT ρ' m3) (renH ρ' h3 ++ hf) = some r0 := fun hf hn => by rw [resA_ren (vldT_of f2) hn hv, dry_ren ρ' hdr]
  have key := leaves_sound (fn := fn) (Φ := fun v _ => v = r0) (R := fun e w' => ∃ v x h' F', e = .returned x ∧ (dry v = true ∧ Φ v) ∧ Own F' h' w' ∧ VR F' v x ∧ Trans F [] w F' h' w') dl' _ w' (dlOk_ret (Φ := fun v _ => v = r0) _ hres (fun _ => rfl) dl' hf' o2.nodup hdl) o2 f2
    fun v x h4 w4 p o4 q4 tr4 => ⟨r0, x, h4, F2, rfl, ⟨hdr, hq⟩, o4, by rw [← p]; exact q4, tr.trans (tr2.trans tr4)⟩
  cases e with
  | normal => exact key
  | ret => exact key
  | _ => rcases he with h | h <;> cases h
theorem ETri.p {f : FuncId} {as : List V} {r : V} (hp : ETri P f as (fun v => v = r)) : PTri P f as r := PTri.any (Tri.mono hp fun v h' e => e.2.2)
theorem Safe.callE {d : Nat} {f : FuncId} {as : List V} {Φ : V → Prop} (hp : ETri P f as Φ) (hc : callee? m o = some (f, as)) (hr : rdyO arr kn m n o = some d) (hside : (isGo P f && as.all dry) = true)
    (hs : ∀ v, dry v = true → Φ v → Safe nb P ρr n Q (.ops arr .no os κ ((d, none) :: kn) ((d, v) :: m) h nx hf dl)) : Safe nb P ρr n Q (.ops arr .no (o :: os) κ kn m h nx hf dl) := by
  simp only [Bool.and_eq_true] at hside
  refine Safe.callS hc hr fun ρ hg hn ht => ?_
  rw [dryL_ren ρ hside.2]
  have t0 := Tri.frame hp (renH ρ h ++ hf)
  refine CallS.of_tri hside.1 (t0.mono ?_)
  rintro v h' ⟨h1, rfl, ⟨rfl, hd, hq⟩, _⟩
  exact ⟨ρ, v, h, nx, hf, agr.refl _ _, hg, by rw [renT_pu, dry_ren ρ hd]; exact Ent.refl _ _, hs v hd hq⟩
theorem resA_c1 {a b off nn : Nat} {T T' : TypeId} {cs : List V} {v : V} (h3 : ldAt P T cs off = some v) (h1 : lk m a = some (.ptr b off)) (h2 : hget h b = some (.cells T' cs nn)) : resA P m h [.cell a T] = some v := by
  simp only [resA, resL, resL1, h1, h2, h3]
theorem resA_c2 {a b off nn i : Nat} {T T' : TypeId} {cs : List V} {v x : V} (h3 : ldAt P T cs off = some v) (h1 : lk m a = some (.ptr b off)) (h2 : hget h b = some (.cells T' cs nn)) (h4 : lk m i = some x) : resA P m h [.cell a T, .tmp i] = some (.tup [v, x]) := by
  simp only [resA, resL, resL1, h1, h2, h3, h4]
theorem resA_c3 {a b off nn i j : Nat} {T T' : TypeId} {cs : List V} {v x y : V} (h3 : ldAt P T cs off = some v) (h1 : lk m a = some (.ptr b off)) (h2 : hget h b = some (.cells T' cs nn)) (h4 : lk m i = some x) (h5 : lk m j = some y) : resA P m h [.cell a T, .tmp i, .tmp j] = some (.tup [v, x, y]) := by
  simp only [resA, resL, resL1, h1, h2, h3, h4, h5]
def bldBp (P : Program) (m : Fl) (o : Oper) (k : Nat) (p : List V → Bool) : Bool := match o.op with
  | .build _ _ => match xP P m [] o with
    | some (.agg cs) => Nat.beq cs.length k && cs.all dryV1 && p cs
    | _ => false
  | _ => false
theorem Safe.buildBp {d k : Nat} {p : List V → Bool} (hb : bldBp P m o k p = true) (hr : rdyO arr kn m n o = some d)
    (hs : ∀ cs : List V, cs.length = k → cs.all dryV1 = true → p cs = true → Safe nb P ρr n Q (.ops arr .no os κ ((d, none) :: kn) ((d, .agg cs) :: m) h nx hf dl)) : Safe nb P ρr n Q (.ops arr .no (o :: os) κ kn m h nx hf dl) := by
  unfold bldBp at hb
  split at hb
  · rename_i T ps hop
    split at hb
    · rename_i cs hx
      simp only [Bool.and_eq_true] at hb
      refine Safe.val (v := .agg cs) (fun ρ hn ht => ?_) hr (hs cs (Nat.eq_of_beq_eq_true hb.1.1) hb.1.2 hb.2)
      have hx2 : xP P m h o = some (.agg cs) := by
        unfold xP at hx ⊢
        simp only [hop] at hx ⊢
        exact hx
      exact xP_ren ht hx2 hn
    · simp at hb
  · simp at hb
theorem Safe.stB2 {T T' : TypeId} {a x : Operand} {k off nn : Nat} {cs : List V} {v : V} (hoff : off < cs.length) (hd : cs.all dryV1 = true) (hop : o.op = .store T a x) (ha : evX m a = some (.ptr k off)) (hx : evX m x = some v) (hg : hget h k = some (.cells T' cs nn)) (hr : gdOk arr kn m o = true)
    (hsz : tsz P T = some 1) (hv : (dryV1 v && Nat.beq (vcells v).length 1) = true)
    (hs : ∀ cs' : List V, cs' = cs.set off v → cs'.length = cs.length → cs'.all dryV1 = true → Safe nb P ρr n Q (.ops arr .no os κ kn m (hset h k (.cells T' cs' nn)) nx hf dl)) : Safe nb P ρr n Q (.ops arr .no (o :: os) κ kn m h nx hf dl) := by
  simp only [Bool.and_eq_true] at hv
  have hl := Nat.eq_of_beq_eq_true hv.2
  have hvc : vcells v = [v] := by cases v <;> simp_all [dryV1, vcells]
  refine Safe.stO hop ha hx hg hr (by rw [hsz, hl]) (by rw [hl]; omega) (by rw [hvc]; have := hv.1; cases v <;> simp_all [dryV1, leafV]) ?_
  rw [hvc]
  refine hs _ (by simp only [stL]) (by simp [stL]) ?_
  simp only [stL]
  refine List.all_eq_true.2 fun u hu => ?_
  rcases List.mem_or_eq_of_mem_set hu with h | h
  · exact List.all_eq_true.1 hd u h
  · rw [h]; exact hv.1
theorem Safe.stLast {T T' : TypeId} {a x : Operand} {k off nn : Nat} {cs : List V} {v0 v : V} (hop : o.op = .store T a x) (ha : evX m a = some (.ptr k off)) (hx : evX m x = some v) (hg : hget h k = some (.cells T' (cs ++ [v0]) nn)) (hr : gdOk arr kn m o = true)
    (hsz : tsz P T = some 1) (hl : cs.length = off) (hvc : vcells v = [v]) (hlf : leafV v = true)
    (hs : Safe nb P ρr n Q (.ops arr .no os κ kn m (hset h k (.cells T' (cs ++ [v]) nn)) nx hf dl)) : Safe nb P ρr n Q (.ops arr .no (o :: os) κ kn m h nx hf dl) := by
  refine Safe.stO hop ha hx hg hr (by rw [hsz, hvc]; rfl) (by rw [hvc]; simp [hl]) (by rw [hvc]; simp [hlf]) ?_
  rw [hvc]
  have e : stL (cs ++ [v0]) off [v] = cs ++ [v] := by
    simp only [stL, ← hl]
    rw [List.set_append_right _ _ (Nat.le_refl _), Nat.sub_self]; rfl
  rw [e]
  exact hs
def elemK (P : Program) (sT e : TypeId) (kk : Nat) : Bool := match elemE P sT with
  | some (e', k', _, _) => Nat.beq e' e && Nat.beq k' kk
  | none => false
theorem elemK_ok {sT e : TypeId} {kk : Nat} (h : elemK P sT e kk = true) : ∃ by_ z, elemE P sT = some (e, kk, by_, z) := by
  unfold elemK at h
  split at h
  · rename_i e' k' b z he
    simp only [Bool.and_eq_true] at h
    rw [← Nat.eq_of_beq_eq_true h.1, ← Nat.eq_of_beq_eq_true h.2]
    exact ⟨b, z, he⟩
  · simp at h
theorem Safe.hpO {h' : Hp} {dr : Dr} (e : h = h') (hs : Safe nb P ρr n Q (.ops arr dr os κ kn m h' nx hf dl)) : Safe nb P ρr n Q (.ops arr dr os κ kn m h nx hf dl) := by subst e; exact hs
theorem frzX_app (k : Nat) (cs : List V) : ∀ a b : List V, frzX k cs (a ++ b) = frzX k cs a ++ frzX k cs b
  | [], _ => rfl
  | v :: r, b => by simp only [List.cons_append, frzX, frzX_app k cs r b]
theorem frzX_d1 (k : Nat) (cs : List V) : ∀ {a : List V}, a.all dryV1 = true → frzX k cs a = a
  | [], _ => rfl
  | v :: r, h => by
    simp only [List.all_cons, Bool.and_eq_true] at h
    have hv : frzW k cs v = v := by have := h.1; cases v <;> simp_all [dryV1, frzW]
    simp only [frzX, hv, frzX_d1 k cs h.2]
theorem evSrc_f1 {h : Hp} {k : Nat} {cs : List V} (hl : cs.length = k) : evSrc h k (.fslice cs 1) = some (cs, 1) := by
  simp only [evSrc]
  rw [if_pos (by omega), List.take_of_length_le (by omega)]
theorem Safe.one {d : Nat} {v : V} (hx : xP P m h o = some v) (hr : rdyO arr kn m n o = some d) (hs : Safe nb P ρr n Q (.ops arr .no os κ ((d, none) :: kn) ((d, v) :: m) h nx hf dl)) : Safe nb P ρr n Q (.ops arr .no (o :: os) κ kn m h nx hf dl) :=
  Safe.val (fun ρ hn ht => xP_ren ht hx hn) hr hs
def isIdxA (P : Program) (m : Fl) (o : Oper) : Option (List V × Nat × Nat × Int × Nat) := match o.op with
  | .indexAddr T x i => match evX m x with
    | some (.fptr cs off) => match evX m i with
      | some (.int _ j) => match tarr P T with
        | some (len, e) => match tsz P e with
          | some k => some (cs, off, len, j, k)
          | none => none
        | none => none
      | _ => none
    | _ => none
  | _ => none
theorem ev_idxA {cs : List V} {off len k : Nat} {j : Int} {i : Nat} (hi : i < len) (hj : j = (i : Int)) (hc : isIdxA P m o = some (cs, off, len, j, k)) : EvA P m o (.fptr cs (off + i * k)) := by
  intro ρ h ht
  subst hj
  unfold isIdxA at hc
  split at hc
  · rename_i hop
    split at hc
    · rename_i ha
      split at hc
      · rename_i hb
        split at hc
        · rename_i hT
          split at hc
          · rename_i hk
            simp only [Option.some.injEq, Prod.mk.injEq] at hc
            obtain ⟨rfl, rfl, rfl, rfl, rfl⟩ := hc
            simp only [evP, hop, evX_ren ha, evX_ren hb, renV, evIndexAddr, hT, hk]
            rw [if_pos (by omega)]
            simp
          · simp at hc
        · simp at hc
      · simp at hc
    · simp at hc
  · simp at hc
theorem Safe.idxA {d : Nat} {cs : List V} {off len k : Nat} {j : Int} {i : Nat} (hi : i < len) (hj : j = (i : Int)) (hc : isIdxA P m o = some (cs, off, len, j, k)) (hr : rdyO arr kn m n o = some d)
    (hs : Safe nb P ρr n Q (.ops arr dr.nx os κ ((d, none) :: kn) ((d, .fptr cs (off + i * k)) :: m) h nx hf dl)) (hck : ckA h (.fptr cs (off + i * k)) dr = true := by rfl) : Safe nb P ρr n Q (.ops arr dr (o :: os) κ kn m h nx hf dl) :=
  Safe.valA (ev_idxA hi hj hc) hr hs hck
def tzLp (P : Program) (T : TypeId) (k : Nat) (p : List V → Bool) : Bool := match tzero P T with
  | some z => Nat.beq z.length k && p z
  | none => false
theorem Safe.allocBp {d k : Nat} {T : TypeId} {p : List V → Bool} (hz : tzLp P T k p = true) (hop : o.op = .alloc T) (hr : rdyO arr kn m n o = some d)
    (hs : ∀ cs : List V, cs.length = k → cs.all dryV1 = true → p cs = true → Safe nb P ρr n Q (.ops arr .no os κ ((d, none) :: kn) ((d, .ptr nx 0) :: m) ((nx, .cells T cs k) :: h) (nx + 1) hf dl)) : Safe nb P ρr n Q (.ops arr .no (o :: os) κ kn m h nx hf dl) := by
  unfold tzLp at hz
  split at hz
  · rename_i z hz1
    simp only [Bool.and_eq_true] at hz
    have hz2 := Nat.eq_of_beq_eq_true hz.1
    have hz3 := tzero_dry hz1
    refine Safe.op hr (LS.new (mk := fun b => .ptr b 0) (mkl := .ptr nx 0) (obl := .cells T z k) (fun ρ b => by simp [renV, rex]) (fun ρ K hn ht hw => OpS.alloc hop hz1 ?_) (hs z hz2 hz3 hz.2))
    intro b hb
    have := hw b hb
    rw [renO, dryL1_ren ρ hz3, ← hz2] at this
    exact this
  · simp at hz
theorem Safe.appH {d k kk by_ len mm : Nat} {G : Option Nat} {h1 h2 : Hp} {sT e xT : TypeId} {a b : Operand} {z cs us : List V} {x : V} (he : elemE P sT = some (e, kk, by_, z)) (hk : k ∉ h1.ns) (hG : G = none → cs = [] ∧ len = 0) (hh : h = h1 ++ (gH e kk k cs G ++ h2)) (hop : o.op = .call { callee := .builtin .append, args := #[a, b], argTypes := #[sT, xT] }) (hxT : appT P xT = true)
    (ha : evX m a = some (gV k len G)) (hb : evX m b = some x) (hsrc : evSrc (h1 ++ (gH e kk k cs G ++ h2)) kk x = some (us, mm)) (hm : 0 < mm) (hr : rdyO arr kn m n o = some d)
    (hlen : cs.length = len * kk) (hud : us.all dry = true) (hlf : us.all leafV = true) (hbd : len + mm ≤ 100000000)
    (hs : ∀ N', len + mm ≤ N' → Safe nb P ρr n Q (.ops arr .no os κ ((d, none) :: kn) ((d, .slice nx 0 (len + mm) N') :: m) ((nx, .cells e (cs ++ us) (N' * kk)) :: (h1 ++ h2)) (nx + 1) hf dl)) :
    Safe nb P ρr n Q (.ops arr .no (o :: os) κ kn m h nx hf dl) := by
  subst hh
  cases G with
  | none =>
    obtain ⟨rfl, rfl⟩ := hG rfl
    refine Safe.appN hop he hxT ha hb hsrc hr hm hud (by omega) fun N' hN' => ?_
    have := hs N' (by omega)
    simpa [gH] using this
  | some N =>
    obtain ⟨g1, g2⟩ := hget_skip (h1 := h1) (h2 := h2) (o := .cells e cs (N * kk)) hk
    refine Safe.appS hop he hxT ha hb (by simpa [gH] using g1) hsrc hr rfl rfl hlen hud hlf hbd fun N' hN' => ?_
    have := hs N' hN'
    simp only [gH, List.singleton_append, g2]
    exact this
def skO (arr : Array Oper) (kn : Kn) (m : Fl) (n : Nat) (o : Oper) : Option Nat := match gsO arr kn m o with
  | .skip => match o.dst with
    | some d => match Nat.blt d n with
      | true => some d
      | false => none
    | none => none
  | _ => none
theorem Safe.skp {d : Nat} (hr : skO arr kn m n o = some d) (hs : Safe nb P ρr n Q (.ops arr .no os κ ((d, none) :: kn) ((d, .tup []) :: m) h nx hf dl)) : Safe nb P ρr n Q (.ops arr .no (o :: os) κ kn m h nx hf dl) := fun hk => by
  unfold skO at hr
  split at hr
  · rename_i hg
    split at hr
    · rename_i d' hd
      split at hr
      · rename_i hn
        simp only [Option.some.injEq] at hr
        subst hr
        refine LO.pass (gsO_skip hk hg) (dstOk_of hd (blt_lt hn)) ?_
        rw [hd]
        exact hs (hk.cons fun b hb => by simp at hb)
      · simp at hr
    · simp at hr
  · simp at hr
def subM (m : Fl) : Fl → Prop
  | [] => True
  | p :: r => lk m p.1 = some p.2 ∧ subM m r
theorem subM_lk {m : Fl} : ∀ {m2 : Fl}, subM m m2 → ∀ i v, lk m2 i = some v → lk m i = some v
  | [], _, i, v, h => by simp [lk] at h
  | (j, u) :: r, hm, i, v, h => by
    simp only [lk] at h
    cases hb : Nat.beq i j with
    | true =>
      rw [hb] at h
      simp only [cond_true, Option.some.injEq] at h
      rw [Nat.eq_of_beq_eq_true hb, ← h]; exact hm.1
    | false =>
      rw [hb] at h
      exact subM_lk hm.2 i v h
theorem Safe.relO {m2 : Fl} (hm : subM m m2) (hs : Safe nb P ρr n Q (.ops arr .no os κ [] m2 h nx hf dl)) : Safe nb P ρr n Q (.ops arr .no os κ kn m h nx hf dl) := fun hkn ρ hg =>
  RO.ent (Ent.sub fun i v hv => by
    simp only [renT] at hv ⊢
    cases h2 : lk m2 i with
    | none => rw [h2] at hv; cases hv
    | some u => rw [subM_lk hm i u h2]; rw [h2] at hv; exact hv) (hs knNil ρ hg)
theorem Safe.fork4 {o1 o2 o3 o4 : Oper} (m2 : Fl) (hb : (∀ kn' m', subM m' m2 → Safe nb P ρr n Q (.ops arr .no os κ kn' m' h nx hf dl)) → Safe nb P ρr n Q (.ops arr .no (o1 :: o2 :: o3 :: o4 :: os) κ kn m h nx hf dl)) (hr : Safe nb P ρr n Q (.ops arr .no os κ [] m2 h nx hf dl)) : Safe nb P ρr n Q (.ops arr .no (o1 :: o2 :: o3 :: o4 :: os) κ kn m h nx hf dl) :=
  hb fun kn' m' hm => Safe.relO hm hr
theorem Safe.oneK {d : Nat} {v : V} (hx : xK P kn m h o = some v) (hr : rdyO arr kn m n o = some d) (hs : Safe nb P ρr n Q (.ops arr .no os κ ((d, none) :: kn) ((d, v) :: m) h nx hf dl)) : Safe nb P ρr n Q (.ops arr .no (o :: os) κ kn m h nx hf dl) := fun hk => by
  obtain ⟨hg, hd, hn⟩ := rdyO_run hk hr
  refine LO.run hg (dstOk_of hd hn) (LS.xK hk hx ?_)
  rw [hd]
  exact hs (hk.cons fun b hb => by simp at hb)
def isLenF (P : Program) (m : Fl) (o : Oper) : Option Nat := match o.op with
  | .call c => match c.callee with
    | .builtin .len => match c.args.toList, c.argTypes.toList with
      | [x], [T] => match evX m x with
        | some (.fslice cs len) => match lenFits P T (.fslice cs len) with
          | true => some len
          | false => none
        | _ => none
      | _, _ => none
    | _ => none
  | _ => none
theorem ev_lenF {len : Nat} (hc : isLenF P m o = some len) : EvA P m o (.int .i64 len) := by
  intro ρ h ht
  unfold isLenF at hc
  split at hc
  · rename_i c hop
    split at hc
    · rename_i hcal
      split at hc
      · rename_i x T h1 h2
        split at hc
        · rename_i cs ln hx
          split at hc
          · rename_i hf
            simp only [Option.some.injEq] at hc
            subst hc
            simp only [evP, hop, hcal, h1, h2, evX_ren hx, renV, evLen, hf]
            rfl
          · simp at hc
        · simp at hc
      · simp at hc
    · simp at hc
  · simp at hc
theorem Safe.lenA {d len : Nat} (hc : isLenF P m o = some len) (hr : rdyO arr kn m n o = some d)
    (hs : Safe nb P ρr n Q (.ops arr dr.nx os κ ((d, none) :: kn) ((d, .int .i64 len) :: m) h nx hf dl)) (hck : ckA h (.int .i64 len) dr = true := by rfl) : Safe nb P ρr n Q (.ops arr dr (o :: os) κ kn m h nx hf dl) :=
  Safe.valA (ev_lenF hc) hr hs hck
theorem Safe.tob {d : Nat} {sT dT e : TypeId} {a : Operand} {s : List UInt8} (hop : o.op = .convert sT dT a) (hs0 : tisstr P sT = true) (hd : tslice P dT = some e) (he : tint P e = some .u8) (ha : evX m a = some (.str s)) (h5 : e = 5) (hr : rdyO arr kn m n o = some d)
    (hs : Safe nb P ρr n Q (.ops arr .no os κ ((d, none) :: kn) ((d, .fslice (byteCells s) s.length) :: m) h nx hf dl)) : Safe nb P ρr n Q (.ops arr .no (o :: os) κ kn m h nx hf dl) := by
  refine Safe.pureF (dr := .no) rfl (fun ρ tt h' K ht htt hK => ?_) hr hs
  have hx : evO tt a = some (.str s) := by
    rw [htt a (by simp [hop, Op.operands]), evX_ren ha]; rfl
  exact OpS.frz (OpS.toBytes hop hs0 hd he hx (fun q N _ _ => ⟨q, e, byteCells s, N, s.length, N, rfl, rfl, hK⟩) h5)
theorem ld_byte {T : TypeId} {s : List UInt8} {i : Nat} (hi : i < s.length) (ht : tagg P T = some false) : ldAt P T (byteCells s) i = some (.int .u8 s[i].toNat) := by
  unfold ldAt
  simp only [ht, byteCells]
  rw [List.getElem?_map, List.getElem?_eq_getElem hi]; rfl
end Go.Fw
