/- A part of the proof: LwS, LwT, LwU, LwV, LwW, LwX, LwY, LwZ, LwAA, LwAB -/
import Derived.Test.YtmohgegpcfkooaaGreatDoorLwR
set_option linter.all false
set_option linter.unusedSectionVars false
set_option linter.unusedVariables false
set_option linter.unusedSimpArgs false
section
namespace Go.Fw
variable [Gl]
variable {P : Program} {ρr : Option Nat} {n nb : Nat} {Q : LPo} {arr : Array Oper} {o : Oper} {os : List Oper} {κ : List Kt} {kn : Kn} {m : Fl} {h hf : Hp} {nx : Nat} {dl : List Nat} {dr : Dr}
end Go.Fw
end

section
namespace Go.Fw
variable [Gl]
variable {P : Program} {ρr : Option Nat} {n nb : Nat} {Q : LPo} {arr : Array Oper} {o : Oper} {os : List Oper} {κ : List Kt} {kn : Kn} {m : Fl} {h hf : Hp} {nx : Nat} {dl : List Nat} {dr : Dr}
def bldB (P : Program) (m : Fl) (o : Oper) (k : Nat) : Bool := match o.op with
  | .build _ _ => match xP P m [] o with
    | some (.agg cs) => Nat.beq cs.length k && cs.all dryV1
    | _ => false
  | _ => false
theorem dryL1_dry {l : List V} (h : l.all dryV1 = true) : l.all dry = true := List.all_eq_true.2 fun v hv => dry1_dry (List.all_eq_true.1 h v hv)
theorem dryL1_leaf {l : List V} (h : l.all dryV1 = true) : l.all leafV = true := List.all_eq_true.2 fun v hv => by
  have := List.all_eq_true.1 h v hv
  cases v <;> simp_all [dryV1, leafV]
def gV (k len : Nat) : Option Nat → V
  | none => .nilslice
  | some N => .slice k 0 len N
def gH (e : TypeId) (kk k : Nat) (cs : List V) : Option Nat → Hp
  | none => []
  | some N => [(k, .cells e cs (N * kk))]
theorem hget_skip {h1 h2 : Hp} {k : Nat} {o : AObj} (hk : k ∉ h1.ns) : hget (h1 ++ (k, o) :: h2) k = some o ∧ hdel (h1 ++ (k, o) :: h2) k = h1 ++ h2 := by
  induction h1 with
  | nil => simp [hget, hdel]
  | cons p r ih =>
    simp only [Hp.ns_cons, List.mem_cons, not_or] at hk
    obtain ⟨a, b⟩ := ih hk.2
    simp only [List.cons_append, hget, hdel]
    rw [if_neg (fun e => hk.1 e.symm), if_neg (fun e => hk.1 e.symm)]
    exact ⟨a, by rw [b]⟩
theorem Safe.appG {d k kk by_ len mm : Nat} {G : Option Nat} {h1 h2 : Hp} {sT e xT : TypeId} {a b : Operand} {z cs us : List V} {x : V} (he : elemE P sT = some (e, kk, by_, z)) (hk : k ∉ h1.ns) (hG : G = none → cs = [] ∧ len = 0) (hh : h = h1 ++ (gH e kk k cs G ++ h2)) (hop : o.op = .call { callee := .builtin .append, args := #[a, b], argTypes := #[sT, xT] }) (hxT : appT P xT = true)
    (ha : evX m a = some (gV k len G)) (hb : evX m b = some x) (hsrc : ∀ h, evSrc h kk x = some (us, mm)) (hm : 0 < mm) (hr : rdyO arr kn m n o = some d)
    (hlen : cs.length = len * kk) (hud : us.all dry = true) (hlf : us.all leafV = true) (hbd : len + mm ≤ 100000000)
    (hs : ∀ N', len + mm ≤ N' → Safe nb P ρr n Q (.ops arr .no os κ ((d, none) :: kn) ((d, .slice nx 0 (len + mm) N') :: m) ((nx, .cells e (cs ++ us) (N' * kk)) :: (h1 ++ h2)) (nx + 1) hf dl)) :
    Safe nb P ρr n Q (.ops arr .no (o :: os) κ kn m h nx hf dl) := by
  subst hh
  cases G with
  | none =>
    obtain ⟨rfl, rfl⟩ := hG rfl
    refine Safe.appN hop he hxT ha hb (hsrc _) hr hm hud (by omega) fun N' hN' => ?_
    have := hs N' (by omega)
    simpa [gH] using this
  | some N =>
    obtain ⟨g1, g2⟩ := hget_skip (h1 := h1) (h2 := h2) (o := .cells e cs (N * kk)) hk
    refine Safe.appS hop he hxT ha hb (by simpa [gH] using g1) (hsrc _) hr rfl rfl hlen hud hlf hbd fun N' hN' => ?_
    have := hs N' hN'
    simp only [gH, List.singleton_append, g2]
    exact this
theorem Safe.hpO {h' : Hp} {dr : Dr} (e : h = h') (hs : Safe nb P ρr n Q (.ops arr dr os κ kn m h' nx hf dl)) : Safe nb P ρr n Q (.ops arr dr os κ kn m h nx hf dl) := by subst e; exact hs
theorem Safe.appH {d k kk by_ len mm : Nat} {G : Option Nat} {h1 h2 : Hp} {sT e xT : TypeId} {a b : Operand} {z cs us : List V} {x : V} (he : elemE P sT = some (e, kk, by_, z)) (hk : k ∉ h1.ns) (hG : G = none → cs = [] ∧ len = 0) (hh : h = h1 ++ (gH e kk k cs G ++ h2)) (hop : o.op = .call { callee := .builtin .append, args := #[a, b], argTypes := #[sT, xT] }) (hxT : appT P xT = true)
    (ha : evX m a = some (gV k len G)) (hb : evX m b = some x) (hsrc : evSrc (h1 ++ (gH e kk k cs G ++ h2)) kk x = some (us, mm)) (hm : 0 < mm) (hr : rdyO arr kn m n o = some d)
    (hlen : cs.length = len * kk) (hud : us.all dry = true) (hlf : us.all leafV = true) (hbd : len + mm ≤ 100000000)
    (hs : ∀ N', len + mm ≤ N' → Safe nb P ρr n Q (.ops arr .no os κ ((d, none) :: kn) ((d, .slice nx 0 (len + mm) N') :: m) ((nx, .cells e (cs ++ us) (N' * kk)) :: (h1 ++ h2)) (nx + 1) hf dl)) :
    Safe nb P ρr n Q (.ops arr .no (o :: os) κ kn m h nx hf dl) := by
  subst hh
  cases G with
  | none =>
    obtain ⟨rfl, rfl⟩ := hG rfl
    refine Safe.appN hop he hxT ha hb hsrc hr hm hud (by omega) fun N' hN' => ?_
    have := hs N' (by omega)
    simpa [gH] using this
  | some N =>
    obtain ⟨g1, g2⟩ := hget_skip (h1 := h1) (h2 := h2) (o := .cells e cs (N * kk)) hk
    refine Safe.appS hop he hxT ha hb (by simpa [gH] using g1) hsrc hr rfl rfl hlen hud hlf hbd fun N' hN' => ?_
    have := hs N' hN'
    simp only [gH, List.singleton_append, g2]
    exact this
def skO (arr : Array Oper) (kn : Kn) (m : Fl) (n : Nat) (o : Oper) : Option Nat := match gsO arr kn m o with
  | .skip => match o.dst with
    | some d => match Nat.blt d n with
      | true => some d
      | false => none
    | none => none
  | _ => none
def isLenF (P : Program) (m : Fl) (o : Oper) : Option Nat := match o.op with
  | .call c => match c.callee with
    | .builtin .len => match c.args.toList, c.argTypes.toList with
      | [x], [T] => match evX m x with
        | some (.fslice cs len) => match lenFits P T (.fslice cs len) with
          | true => some len
          | false => none
        | _ => none
      | _, _ => none
    | _ => none
  | _ => none
theorem ev_lenF {len : Nat} (hc : isLenF P m o = some len) : EvA P m o (.int .i64 len) := by
  intro ρ h ht
  unfold isLenF at hc
  split at hc
  · rename_i c hop
    split at hc
    · rename_i hcal
      split at hc
      · rename_i x T h1 h2
        split at hc
        · rename_i cs ln hx
          split at hc
          · rename_i hf
            simp only [Option.some.injEq] at hc
            subst hc
            simp only [evP, hop, hcal, h1, h2, evX_ren hx, renV, evLen, hf]
            rfl
          · simp at hc
        · simp at hc
      · simp at hc
    · simp at hc
  · simp at hc
theorem Safe.lenA {d len : Nat} (hc : isLenF P m o = some len) (hr : rdyO arr kn m n o = some d)
    (hs : Safe nb P ρr n Q (.ops arr dr.nx os κ ((d, none) :: kn) ((d, .int .i64 len) :: m) h nx hf dl)) (hck : ckA h (.int .i64 len) dr = true := by rfl) : Safe nb P ρr n Q (.ops arr dr (o :: os) κ kn m h nx hf dl) :=
  Safe.valA (ev_lenF hc) hr hs hck
end Go.Fw
end

section
namespace Go.Fw
variable [Gl]
variable {P : Program} {ρr : Option Nat} {n nb : Nat} {Q : LPo} {arr : Array Oper} {o : Oper} {os : List Oper} {κ : List Kt} {kn : Kn} {m : Fl} {h hf : Hp} {nx : Nat} {dl : List Nat}
theorem dlOk_ret2 {rs : List ResultVar} {t : Fr} {v : V} (a : Hp) (hv : ∀ hf : Hp, (a ++ hf).ns.Nodup → resAll P rs t (a ++ hf) = some v) : ∀ (dl : List Nat) (hf : Hp), (a ++ hf).ns.Nodup → dlOk dl hf → RetOk P rs (fun u h' => u = v ∧ ∃ hf2, h' = a ++ hf2) t dl (a ++ hf)
  | [], hf, hn, _ => ⟨v, hv hf hn, rfl, hf, rfl⟩
  | r :: dl, hf, hn, hd => by
    obtain ⟨h1, h2⟩ := hget_right hd.1 hn
    refine ⟨h1, ?_⟩
    rw [h2]
    exact dlOk_ret2 a hv dl _ (by rw [← h2]; exact hdel_nodup r hn) hd.2
def RetY (P : Program) (rs : List ResultVar) (Φ : V → Hp → Prop) : LPo := fun e m h nx hf dl => (e = .normal ∨ e = .ret) ∧ dl = [] ∧ ∃ r, FinOk P rs r m h ∧ Φ r hf
theorem Tri.of_safeY {f : FuncId} {fn : Func} {c : Code} {as : List V} {Φ : V → Hp → Prop} {h0 : Hp} (hf : P.funcs[f]? = some fn) (hb : fn.body = some c) {rs : Array ResultVar} (hrs : fn.results = rs) (hn : fn.ntmps = n) (hl : (Nat.ble as.length n && as.all dry) = true)
    (hs : Safe 0 P none n (RetY P rs.toList Φ) (.code c [] [] (frm 0 as) [] 0 h0 [])) : Tri P f as h0 Φ := by
  simp only [Bool.and_eq_true] at hl
  intro F w av ho ha
  subst hrs
  refine callsIn_of_wp_marks hf hb (FW_fn none f) ?_ rfl
  subst hn
  have hs' := hs knNil (fun _ => none) ⟨fun _ _ => rfl, fun p hp => by simp at hp, Nat.zero_le _⟩
  rw [← frA_ren hl.2] at hs'
  refine wpIn_mono (hs' F w _ ho (frA_r ha (Nat.le_of_ble_eq_true hl.1))) ?_
  rintro e ⟨tm, ds⟩ w' ⟨t', h', dl', F', ⟨ρ', m', h2, nx', hf', a, g, en, q⟩, ho', hf'', hd, tr⟩
  simp only at hd hf''
  subst hd
  obtain ⟨he, rfl, r, hfin, hΦ⟩ := q
  obtain ⟨m3, h3, r0, g3, e3, hv, hdr, hle⟩ := hfin.sound (hf := hf') g
  obtain ⟨F2, o2, f2, tr2⟩ := (en.trans e3) F' w' fn.ntmps tm ho' hf''
  have hres : resAll P fn.results.toList (renT ρ' m3) (renH ρ' h3 ++ hf') = some r0 := by rw [resA_ren (vldT_of f2) o2.nodup hv, dry_ren ρ' hdr]
  have key := leaves_sound (fn := fn) (Φ := fun v h' => v = r0 ∧ h' = renH ρ' h3 ++ hf') (R := fun e w' => ∃ v x h' F', e = .returned x ∧ Φ v h' ∧ Own F' h' w' ∧ VR F' v x ∧ Trans F h0 w F' h' w') [] _ w' ⟨_, hres, rfl, rfl⟩ o2 f2
    fun v x h4 w4 p o4 q4 tr4 => by
      obtain ⟨p1, p2⟩ := p
      subst p1 p2
      exact ⟨r, x, hf', F2, rfl, hΦ, o4.sub (List.sublist_append_right _ _), hle _ _ q4, (tr.trans (tr2.trans tr4)).trans (Trans.sub (List.sublist_append_right _ _))⟩
  cases e with
  | normal => exact key
  | ret => exact key
  | _ => rcases he with h | h <;> cases h
def yieldee? (m : Fl) (o : Oper) : Option (Nat × List V) := match o.op with
  | .call c => match c.callee with
    | .value fo => match evX m fo with
      | some (.yield l) => match evXs m c.args.toList with
        | some as => some (l, as)
        | none => none
      | _ => none
    | _ => none
  | _ => none
theorem yieldee?_inv {l : Nat} {as : List V} (hc : yieldee? m o = some (l, as)) : ∃ c fo, o.op = .call c ∧ c.callee = .value fo ∧ evX m fo = some (.yield l) ∧ evXs m c.args.toList = some as := by
  unfold yieldee? at hc
  split at hc
  · rename_i c hop
    split at hc
    · rename_i fo hfo
      split at hc
      · rename_i l' he
        split at hc
        · rename_i bs hb
          simp only [Option.some.injEq, Prod.mk.injEq] at hc
          obtain ⟨rfl, rfl⟩ := hc
          exact ⟨c, fo, hop, hfo, he, hb⟩
        · simp at hc
      · simp at hc
    · simp at hc
  · simp at hc
theorem YieldS.framed {l : Nat} {as : List V} {K : V → Hp → Prop} (hy : YieldS P l as hf K) (h0 : Hp) : YieldS P l as (h0 ++ hf) fun v h' => ∃ h1, h' = h0 ++ h1 ∧ K v h1 := by
  intro F w av ρ o a next Q' ho ha hn
  have hp : (hf ++ h0).Perm (h0 ++ hf) := List.perm_append_comm
  have ho1 := ho.perm hp
  refine hy F w av ρ o a next Q' (ho1.sub (List.sublist_append_left _ _)) ha fun v x h' F' w' k o' r tr => ?_
  obtain ⟨g1, g2, g3⟩ := own_frame ho1 o' tr
  have hp2 : (h0 ++ h').Perm (h' ++ h0) := List.perm_append_comm
  exact hn v x _ F' w' ⟨h', rfl, k⟩ (g1.perm hp2) r (((Trans.perm hp).trans g2).trans (Trans.perm hp2))
theorem Safe.yield {d l : Nat} {as : List V} {K : V → Hp → Prop} (hy : YieldS P l as hf K) (hc : yieldee? m o = some (l, as)) (hr : rdyO arr kn m n o = some d) (hside : as.all dry = true)
    (hs : ∀ v hf', K v hf' → dry v = true ∧ Safe nb P ρr n Q (.ops arr .no os κ ((d, none) :: kn) ((d, v) :: m) h nx hf' dl)) : Safe nb P ρr n Q (.ops arr .no (o :: os) κ kn m h nx hf dl) := by
  obtain ⟨c, fo, hop, hfo, he, hb⟩ := yieldee?_inv hc
  refine Safe.op hr (LS.real fun ρ hg hn ht => ?_)
  have h1 := evX_ren (ρ := ρ) he
  have h2 := evXs_ren (ρ := ρ) hb
  rw [dryL_ren ρ hside] at h2
  refine OpS.yield hop hfo h1 h2 ((hy.framed (renH ρ h)).mono ?_)
  rintro v h' ⟨hf', rfl, k⟩
  obtain ⟨hd, hS⟩ := hs v hf' k
  exact ⟨ρ, v, h, nx, hf', agr.refl _ _, hg, by rw [renT_pu, dry_ren ρ hd]; exact Ent.refl _ _, hS⟩
def bindL : List Nat → List V → Fl → Fl
  | p :: ps, v :: vs, m => bindL ps vs ((p, v) :: m)
  | _, _, m => m
theorem bindL_ren (ρ : Nat → Option Nat) : ∀ (ps : List Nat) (vs : List V) (m : Fl), vs.all dry = true → bindP ps vs (renT ρ m) = renT ρ (bindL ps vs m)
  | [], vs, m, _ => by cases vs <;> rfl
  | p :: ps, [], m, _ => rfl
  | p :: ps, v :: vs, m, hd => by
    simp only [List.all_cons, Bool.and_eq_true] at hd
    simp only [bindP, bindL]
    rw [← bindL_ren ρ ps vs _ hd.2, renT_cons, dry_ren ρ hd.1]
def RndQ (nx : Nat) (hf : Hp) {α : Type} (hp : α → Hp) (I : α → Prop) (B : Code → α → Prop) : LPo := fun e m2 h2 nx2 hf2 _ => hf2 = hf ∧ ∃ b, (match e with
    | .normal => I b
    | .ret => B .ret b
    | .exit id => B (.exit id) b
    | .goto l => B (.goto l) b
    | _ => False) ∧ Rel nx (sgI nx) m2 h2 nx2 [] (hp b) nx
def AsgQ (nx : Nat) (P : Program) (l : Nat) (n : Nat) (body : Code) (R : LPo) : LPo := fun e m2 h2 nx2 hf2 dl2 => match e with
  | .normal => Safe nx P (some l) n R (.code body [] [] m2 h2 nx2 hf2 dl2)
  | _ => False
theorem sgF_sgI : ∀ (n k : Nat), sgF (sgI n) k = if k < n then some k else none
  | 0, k => by simp [sgI, sgF]
  | n + 1, k => by
    simp only [sgI, sgF]
    cases hb : Nat.beq k n with
    | true => have := Nat.eq_of_beq_eq_true hb; subst this; simp
    | false =>
      have hne : k ≠ n := fun e => by rw [e, Nat.beq_refl] at hb; cases hb
      rw [cond_false, sgF_sgI n k]
      by_cases hk : k < n
      · rw [if_pos hk, if_pos (by omega)]
      · rw [if_neg hk, if_neg (by omega)]
theorem cmp_back {ρ ρ' : Nat → Option Nat} (hf : ∀ k, nx ≤ k → ρ k = none) (ha : agr nx ρ ρ') : cmp ρ' (sgI nx) = ρ := by
  funext k
  simp only [cmp, sgF_sgI]
  by_cases hk : k < nx
  · rw [if_pos hk, Option.bind_some, ha k hk]
  · rw [if_neg hk, Option.bind_none, hf k (by omega)]
theorem Safe.range {α : Type} {g : Operand} {ps : Array Tmp} {asg body : Code} {f : FuncId} {caps : List V} {xs : List (List V)} (hp : α → Hp) (I : Nat → α → Prop) (B : Code → α → Prop) (a0 : α)
    (hit : IterC P f caps xs) (hg : evX m g = some (.clo f caps)) (hgo : (isGo P f && caps.all dryV1 && ps.toList.all (fun p => Nat.blt p n)) = true) (hxs : ∀ a, a ∈ xs → a.length = ps.size ∧ a.all dry = true) (h0 : h = hp a0) (hI : I 0 a0)
    (round : ∀ l k (hk : k < xs.length) b, I k b → Safe nx P (some l) n (AsgQ nx P l n body (RndQ nx hf hp (I (k + 1)) B)) (.code asg [] [] (bindL ps.toList xs[k] m) (hp b) nx hf []))
    (hend : ∀ r b, I xs.length b → Safe nb P none n Q (lv .normal κ [] m (hp b) nx ((r, .deferred) :: hf) (r :: dl)))
    (hjump : ∀ r b c, B c b → Safe nb P none n Q (.code c κ [] m (hp b) nx ((r, .deferred) :: hf) (r :: dl))) :
    Safe nb P none n Q (.code (.rangeFunc g ps asg body) κ kn m h nx hf dl) := by
  subst h0
  simp only [Bool.and_eq_true] at hgo
  intro hk ρ hgd
  have he := evX_ren (ρ := ρ) hg
  rw [renV, dryL1_ren ρ hgo.1.2] at he
  have hg0 : good nx ρ nx (hp a0) := ⟨hgd.fresh, hgd.keys, Nat.le_refl _⟩
  have hperm : ∀ (r : Nat) (b : α), ((renH ρ (hp b)) ++ (r, AObj.deferred) :: hf).Perm ((r, AObj.deferred) :: (renH ρ (hp b) ++ hf)) := fun r b => List.perm_middle
  refine WC.range (fun k h' => ∃ b, I k b ∧ keysOk ρ (hp b) ∧ h' = renH ρ (hp b) ++ hf) (fun c h' => ∃ b, B c b ∧ keysOk ρ (hp b) ∧ h' = renH ρ (hp b) ++ hf) he hgo.1.1 hit (fun p hp => blt_lt (List.all_eq_true.1 hgo.2 p hp)) (fun a ha => (hxs a ha).1) ⟨a0, hI, hgd.keys, rfl⟩ ?_ ?_ ?_
  · rintro l k hkl h' ⟨b, hb, hkeys, rfl⟩
    rw [bindL_ren ρ _ _ _ (hxs _ (List.getElem_mem hkl)).2]
    have hr := round l k hkl b hb knNil ρ ⟨hgd.fresh, hkeys, Nat.le_refl _⟩
    refine hr.mono ?_
    rintro e t' h' dl' ⟨ρ', m', h2, nx', hf', a, gd, en, q⟩
    cases e with
    | normal =>
      refine WC.ent en (WC.post ((q knNil ρ' gd).mono ?_))
      rintro e t3 h3 dl3 ⟨ρ2, m3, h4, nx3, hf3, a2, g2, en2, q2⟩
      obtain ⟨rfl, b2, hq, hrel⟩ := q2
      obtain ⟨_, g3, en3⟩ := hrel.ent g2 hf3
      rw [cmp_back hgd.fresh (a.trans a2)] at g3 en3
      refine ⟨_, _, en2.trans en3, ?_⟩
      cases e with
      | normal => exact ⟨b2, hq, g3.keys, rfl⟩
      | ret => exact ⟨b2, hq, g3.keys, rfl⟩
      | exit id => exact ⟨b2, hq, g3.keys, rfl⟩
      | goto l => exact ⟨b2, hq, g3.keys, rfl⟩
      | _ => exact hq.elim
    | _ => exact q.elim
  · rintro r h' hr ⟨b, hb, hkeys, rfl⟩
    have hs := lv_sound (nb := nb) (P := P) (ρr := none) (n := n) (Q := Q) κ .normal knNil (hend r b hb)
    exact ⟨ρ, m, hp b, nx, _, agr.refl _ _, ⟨hgd.fresh, hkeys, hgd.base⟩, Ent.perm (hperm r b), hs⟩
  · rintro r h' c hr ⟨b, hb, hkeys, rfl⟩
    exact WC.ent (Ent.perm (hperm r b)) (hjump r b c hb knNil ρ ⟨hgd.fresh, hkeys, hgd.base⟩)
end Go.Fw
end

section
namespace Go.Fw
variable {α : Type}
end Go.Fw
end

section
namespace Go.Fw
variable [Gl]
variable {P : Program} {ρr : Option Nat} {n nb : Nat} {Q : LPo} {arr : Array Oper} {o : Oper} {os : List Oper} {κ : List Kt} {kn : Kn} {m : Fl} {h hf : Hp} {nx : Nat} {dl : List Nat}
def BackH (nb : Nat) {α : Type} (fr : α → Fl) (hp : α → Hp) (nx0 : Nat) (meas : α → Nat) (I : α → Prop) (R : α → Hp → List Nat → Prop) (a : α) : Fl → Hp → Nat → Hp → List Nat → Prop := fun m h nx hf dl =>
  ∃ sg b, I b ∧ meas b < meas a ∧ R b hf dl ∧ Rel nb sg m h nx (fr b) (hp b) nx0
theorem Safe.loopH {α : Type} {c : Code} (fr : α → Fl) (hp : α → Hp) (nx0 : Nat) (meas : α → Nat) (I : α → Prop) (R : α → Hp → List Nat → Prop) (a0 : α) (sg : Sg) (hr : Rel nb sg m h nx (fr a0) (hp a0) nx0) (h0 : I a0) (hR : R a0 hf dl)
    (round : ∀ a, I a → ∀ hf dl, R a hf dl → Safe nb P ρr n Q (.code c (.lp (BackH nb fr hp nx0 meas I R a) :: κ) [] (fr a) (hp a) nx0 hf dl)) : Safe nb P ρr n Q (.code (.loop c) κ kn m h nx hf dl) := by
  refine Safe.rel (κ := κ) sg hr fun hk ρ hg => ?_
  refine WC.loopE (fun j t h' dl' => ∃ a ρ' hf', meas a = j ∧ I a ∧ R a hf' dl' ∧ agr nb ρ ρ' ∧ good nb ρ' nx0 (hp a) ∧ t = renT ρ' (fr a) ∧ h' = renH ρ' (hp a) ++ hf') ?_ (j := meas a0) (Ent.refl _ _) ⟨a0, ρ, hf, rfl, h0, hR, agr.refl _ _, hg, rfl, rfl⟩
  rintro j t h' dl' ⟨a, ρ', hf', rfl, hI, hR, ag, gd, rfl, rfl⟩
  refine ((round a hI hf' dl' hR knNil) ρ' gd).mono ?_
  rintro e t2 h2 dl2 ⟨ρ2, m2, h3, nx2, hf2, a2, g2, en2, q2⟩
  cases e with
  | normal =>
    obtain ⟨sg2, b, hIb, hlt, hRb, hr2⟩ := q2
    obtain ⟨a3, g3, en3⟩ := hr2.ent g2 hf2
    exact ⟨meas b, _, _, hlt, en2.trans en3, b, cmp ρ2 sg2, hf2, rfl, hIb, hRb, ag.trans (a2.trans a3), g3, rfl, rfl⟩
  | _ => exact ⟨ρ2, m2, h3, nx2, hf2, ag.trans a2, g2, en2, q2⟩
theorem Safe.toBody {l : Nat} {body : Code} {R : LPo} (hs : Safe nx P (some l) n R (.code body [] [] m h nb hf dl)) : Safe nx P (some l) n (AsgQ nx P l n body R) (.fin .normal m h nb hf dl) := hs
def FinR (nb : Nat) (r : V) (h : Hp) (nx : Nat) (Φ : V → Hp → Nat → Prop) : Prop := ∃ sg r2 h2 nx2, Rel nb sg [(0, r)] h nx [(0, r2)] h2 nx2 ∧ Φ r2 h2 nx2
inductive FinN (nb : Nat) (P : Program) (rs : List ResultVar) (Φ : V → Hp → Nat → Prop) : Fl → Hp → Nat → Prop where
  | done {m : Fl} {h : Hp} {nx : Nat} {r : V} (hv : resA P m h rs = some r) (hq : FinR nb r h nx Φ) : FinN nb P rs Φ m h nx
  | frz {m : Fl} {h : Hp} {nx : Nat} (k : Nat) {T : TypeId} {cs : List V} {nn : Nat} (hk : hget h k = some (.cells T cs nn)) (hd : cs.all dryV1 = true) (hs : FinN nb P rs Φ (frzM k cs m) (frzHp k cs (hdel h k)) nx) : FinN nb P rs Φ m h nx
def RetN (nb : Nat) (P : Program) (rs : List ResultVar) (Φ : V → Hp → Nat → Prop) : LPo := fun e m h nx hf dl => (e = .normal ∨ e = .ret) ∧ dlOk dl hf ∧ FinN nb P rs Φ m h nx
theorem FinN.sound {rs : List ResultVar} {Φ : V → Hp → Nat → Prop} {hf : Hp} (hfin : FinN nb P rs Φ m h nx) : ∀ {ρ : Nat → Option Nat}, good nb ρ nx h → ∃ ρ' m2 h2 nx2 r0, agr nb ρ ρ' ∧ good nb ρ' nx2 h2 ∧ Ent (renT ρ m) (renH ρ h ++ hf) (renT ρ' m2) (renH ρ' h2 ++ hf) ∧ resA P m2 h2 rs = some r0 ∧ FinR nb r0 h2 nx2 Φ := by
  induction hfin with
  | done hv hq => exact fun {ρ} hg => ⟨_, _, _, _, _, agr.refl _ _, hg, Ent.refl _ _, hv, hq⟩
  | frz k hk hd hs ih =>
    intro ρ hg
    obtain ⟨g1, e1⟩ := ent_frz (hf := hf) hg hk hd
    obtain ⟨ρ', m2, h2, nx2, r0, a2, g2, e2, hv, hq⟩ := ih g1
    exact ⟨ρ', m2, h2, nx2, r0, a2, g2, e1.trans e2, hv, hq⟩
theorem TriL.of_safeN {f : FuncId} {fn : Func} {c : Code} {as : List V} {Φ : V → Hp → Nat → Prop} (hf : P.funcs[f]? = some fn) (hb : fn.body = some c) {rs : Array ResultVar} (hrs : fn.results = rs) (hn : fn.ntmps = n) (hl : Nat.ble as.length n = true)
    (hs : Safe nx P none n (RetN nx P rs.toList Φ) (.code c [] [] (frm 0 as) h nx [] [])) : TriL P f as h nx Φ := by
  intro ρ hg F w av ho ha
  subst hrs
  refine callsIn_of_wp_marks hf hb (FW_fn none f) ?_ rfl
  subst hn
  have hs' := hs knNil ρ hg
  have ho2 : Own F (renH ρ h ++ []) w := by rw [List.append_nil]; exact ho
  have hfr := frA_r ha (by rw [renL_length]; exact Nat.le_of_ble_eq_true hl)
  rw [frA_renL] at hfr
  refine wpIn_mono (hs' F w _ ho2 hfr) ?_
  rintro e ⟨tm, ds⟩ w' ⟨t', h', dl', F', ⟨ρ', m', h2, nx', hf', a, g, en, q⟩, ho', hf'', hd, tr⟩
  simp only at hd hf''
  subst hd
  obtain ⟨he, hdl, hfin⟩ := q
  obtain ⟨ρ3, m3, h3, nx3, r0, a3, g3, e3, hv, sg, r2, h4, nx4, hrel, hq⟩ := hfin.sound (hf := hf') g
  obtain ⟨F2, o2, f2, tr2⟩ := (en.trans e3) F' w' fn.ntmps tm ho' hf''
  have hres : ∀ hf : Hp, (renH ρ3 h3 ++ hf).ns.Nodup → resAll P fn.results.toList (renT ρ3 m3) (renH ρ3 h3 ++ hf) = some (renV ρ3 r0) := fun hf hn => resA_ren (vldT_of f2) hn hv
  have key := leaves_sound (fn := fn) (R := fun e w' => ∃ v x h' F', e = .returned x ∧ (∃ ρ' v0 h0 nx', agr nx ρ ρ' ∧ good nx ρ' nx' h0 ∧ v = renV ρ' v0 ∧ h' = renH ρ' h0 ∧ Φ v0 h0 nx') ∧ Own F' h' w' ∧ VR F' v x ∧ Trans F (renH ρ h) w F' h' w') dl' _ w' (dlOk_ret2 _ hres dl' hf' o2.nodup hdl) o2 f2
    (fun v x h5 w4 ⟨p1, hf2, p2⟩ o4 q4 tr4 => by
      subst p1 p2
      obtain ⟨a4, g4, en4⟩ := hrel.ent g3 ([] : Hp)
      have o5 : Own F2 (renH ρ3 h3 ++ []) w4 := by rw [List.append_nil]; exact o4.sub (List.sublist_append_left _ _)
      have f5 : FrR F2 1 (renT ρ3 [(0, r0)]) #[x] := ⟨by simp, fun i v hv => by
        unfold renT at hv
        simp only [lk] at hv
        cases hb : Nat.beq i 0 with
        | true =>
          rw [hb] at hv
          simp only [cond_true, Option.map_some, Option.some.injEq] at hv
          subst hv
          have := Nat.eq_of_beq_eq_true hb
          subst this
          exact ⟨x, rfl, q4⟩
        | false => rw [hb] at hv; simp at hv⟩
      obtain ⟨F6, o6, f6, tr6⟩ := en4 F2 w4 1 #[x] o5 f5
      obtain ⟨y, hy, q6⟩ := f6.at_ 0 (renV (cmp ρ3 sg) r2) (by simp [renT, lk])
      have hxy : y = x := by simpa using hy.symm
      rw [hxy] at q6
      rw [List.append_nil] at o6 tr6
      refine ⟨_, x, renH (cmp ρ3 sg) h4, F6, rfl, ⟨cmp ρ3 sg, r2, h4, nx4, (a.trans a3).trans a4, g4, rfl, rfl, hq⟩, o6, q6, ?_⟩
      have t1 := (tr.trans (tr2.trans tr4)).trans (Trans.sub (List.sublist_append_left (renH ρ3 h3) hf2))
      rw [List.append_nil] at t1
      rw [List.append_nil] at tr6
      exact t1.trans tr6)
  cases e with
  | normal => exact key
  | ret => exact key
  | _ => rcases he with h | h <;> cases h
theorem dlOk_1 {r : Nat} {dl : List Nat} {hf : Hp} (h : dlOk dl hf) : dlOk (r :: dl) ((r, .deferred) :: hf) := by
  refine ⟨by simp [hget], ?_⟩
  have : hdel ((r, AObj.deferred) :: hf) r = hf := by simp [hdel]
  rw [this]; exact h
end Go.Fw
namespace Go.Fw
variable [Gl]
variable {P : Program} {ρr : Option Nat} {n nb : Nat} {Q : LPo} {arr : Array Oper} {o : Oper} {os : List Oper} {κ : List Kt} {kn : Kn} {m : Fl} {h hf : Hp} {nx : Nat} {dl : List Nat}
end Go.Fw
end

section
namespace Go.Fw
variable [Gl]
variable {P : Program} {ρr : Option Nat} {n nb : Nat} {Q : LPo} {arr : Array Oper} {o : Oper} {os : List Oper} {κ : List Kt} {kn : Kn} {m : Fl} {h hf : Hp} {nx : Nat} {dl : List Nat} {fu : Nat} {L : List Nat} {K : KD} {i : Nat}
def DStp (nb : Nat) (P : Program) (ρr : Option Nat) (n : Nat) (arr : Array Oper) (fu : Nat) (L : List Nat) (i : Nat) (o : Oper) (kn : Kn) (m : Fl) (h : Hp) (nx : Nat) (hf : Hp) (K : KD) : Prop :=
  KnOk kn m → ∀ ρ, good nb ρ nx h → (renH ρ h ++ hf).ns.Nodup → vldT ρ m → wStep P ρr n arr o (renT ρ m) (renH ρ h ++ hf) fun t' h' => wA P ρr n arr fu (i :: L) t' h' (liftD nb ρ K)
theorem DS.all {is : List Nat} (hr : rdy arr L = is) (hne : is ≠ []) (hs : ∀ i ∈ is, ∀ o, arr[i]? = some o → DStp nb P ρr n arr fu L i o kn m h nx hf K) : DS nb P ρr n arr (fu + 1) L kn m h nx hf K := by
  intro hk ρ hg hn ht
  rw [wA]
  exact .inr ⟨fun e => absurd (hr.symm.trans e) hne, fun i hi o ho => hs i (by rw [← hr]; exact hi) o ho hk ρ hg hn ht⟩
theorem DS.fork1 {i : Nat} {o : Oper} (hr : (rdy arr L == [i]) = true) (ho : arr.toList[i]? = some o) (h1 : DStp nb P ρr n arr fu L i o kn m h nx hf K) : DS nb P ρr n arr (fu + 1) L kn m h nx hf K := by
  rw [Array.getElem?_toList] at ho
  refine DS.all (by simpa using hr) (by simp) fun j hj oj hoj => ?_
  obtain rfl : j = i := by simpa using hj
  obtain rfl := Option.some.inj (ho.symm.trans hoj)
  exact h1
theorem DS.fork2 {i j : Nat} {o o' : Oper} (hr : (rdy arr L == [i, j]) = true) (ho : arr.toList[i]? = some o) (ho' : arr.toList[j]? = some o') (h1 : DStp nb P ρr n arr fu L i o kn m h nx hf K) (h2 : DStp nb P ρr n arr fu L j o' kn m h nx hf K) : DS nb P ρr n arr (fu + 1) L kn m h nx hf K := by
  rw [Array.getElem?_toList] at ho ho'
  refine DS.all (by simpa using hr) (by simp) fun k hk ok hok => ?_
  simp only [List.mem_cons, List.not_mem_nil, or_false] at hk
  rcases hk with rfl | rfl
  · obtain rfl := Option.some.inj (ho.symm.trans hok); exact h1
  · obtain rfl := Option.some.inj (ho'.symm.trans hok); exact h2
theorem DStp.val {d : Nat} {v : V} (hx : xK P kn m h o = some v) (hr : rdyO arr kn m n o = some d) (hvl : vldB h v = true)
    (hs : DS nb P ρr n arr fu (i :: L) ((d, none) :: kn) ((d, v) :: m) h nx hf K) : DStp nb P ρr n arr fu L i o kn m h nx hf K := by
  intro hk ρ hg hn ht
  obtain ⟨hgd, hd, hlt⟩ := rdyO_run hk hr
  refine wStep.yes (dstOk_of hd hlt) (gd_yes (i := i) (gdL_S hgd)) (WOp_of_evP (by rw [evP_rs]; exact knk_val hk hn ht hx) ?_)
  rw [hd]
  simp only [updO]
  rw [renT_c]
  exact hs (hk.cons fun b hb => by simp at hb) ρ hg hn (ht.cons (hg.vld hvl))
theorem DStp.st {T T' : TypeId} {a x : Operand} {k off nn : Nat} {cs : List V} {v : V} (hop : o.op = .store T a x) (ha : evX m a = some (.ptr k off)) (hx : evX m x = some v) (hg : hget h k = some (.cells T' cs nn)) (hr : gdOk arr kn m o = true)
    (hsz : tsz P T = some (vcells v).length) (hl : Nat.ble (off + (vcells v).length) cs.length = true) (hlf : (vcells v).all leafV = true)
    (hs : DS nb P ρr n arr fu (i :: L) kn m (hset h k (.cells T' (stL cs off (vcells v)) nn)) nx hf K) : DStp nb P ρr n arr fu L i o kn m h nx hf K := by
  intro hk ρ gd hn ht
  obtain ⟨hgd, hd⟩ := gdOk_run hk hr
  obtain ⟨c, hcb⟩ := evX_vld ht ha
  have hg' := hget_ren (ρ := ρ) hg hn
  have ha' := evX_ren (ρ := ρ) ha
  simp only [renV, hcb] at ha'
  rw [ky_eq hcb] at hg'
  have hset' := hset_ren (ρ := ρ) (hf := hf) (o' := .cells T' (stL cs off (vcells v)) nn) hg hn
  rw [ky_eq hcb] at hset'
  have hA : a ∈ o.op.operands.toList := by simp [hop, Op.operands]
  have hX : x ∈ o.op.operands.toList := by simp [hop, Op.operands]
  refine wStep.sem (dstOk_no hd) (gd_yes (i := i) (gdL_S hgd)) ?_
  have key : OpS P ρr n o (rs arr (renT ρ m) o) (renH ρ h ++ hf) fun v h' => wA P ρr n arr fu (i :: L) (updO (renT ρ m) o.dst v) h' (liftD nb ρ K) := by
    refine OpS.store hop (by rw [evO_rs hA]; exact ha') (by rw [evO_rs hX]; exact evX_ren hx) ?_
    simp only [WStore]
    simp only [hg', renO, vcells_ren, renL_length]
    refine ⟨hsz, Nat.le_of_ble_eq_true hl, all_leaf_ren hlf, ?_⟩
    rw [hd]
    simp only [updO]
    simp only [renO] at hset'
    rw [stL_ren, hset']
    refine hs hk ρ (hset_keys gd) ?_ ht
    have : (renH ρ (hset h k (.cells T' (stL cs off (vcells v)) nn)) ++ hf).ns = (renH ρ h ++ hf).ns := by rw [← hset', hset_ns]
    rw [this]; exact hn
  refine OpS.mono key fun v h' hk => ⟨hk, fun e => ?_⟩
  unfold calm at e
  simp [hop] at e
end Go.Fw
namespace Go.Fw
variable [Gl]
end Go.Fw
end

section
namespace Go.Fw
variable [Gl]
variable {P : Program} {ρ ρr : Option Nat} {n nb : Nat} {Q : LPo} {arr : Array Oper} {o : Oper} {os : List Oper} {κ : List Kt} {kn : Kn} {m : Fl} {t : Fr} {h hf : Hp} {nx : Nat} {dl : List Nat} {K : V → Hp → Prop}
def isSlO (P : Program) (m : Fl) (o : Oper) : Option (Nat × Nat × Nat × Nat × Nat × Option Int × Option Int) := match o.op with
  | .slice T x lo hi none => match evX m x with
    | some (.slice b off len cap) => match tslice P T with
      | some e => match tsz P e with
        | some k => match evI m lo with
          | some l => match evI m hi with
            | some r => some (b, off, len, cap, k, l, r)
            | none => none
          | none => none
        | none => none
      | none => none
    | _ => none
  | _ => none
theorem eva_slO {b off len cap k : Nat} {lo hi : Option Int} (l r : Nat) (hl : lo.getD ((0 : Nat) : Int) = (l : Int)) (hr : hi.getD (len : Int) = (r : Int)) (h1 : l ≤ r) (h2 : r ≤ cap) (hc : isSlO P m o = some (b, off, len, cap, k, lo, hi)) :
    EvA P m o (.slice b (if cap = l then off else off + l * k) (r - l) (cap - l)) := by
  intro ρ h ht
  unfold isSlO at hc
  split at hc
  · rename_i hop
    split at hc
    · rename_i hx
      split at hc
      · rename_i hT
        split at hc
        · rename_i hz
          split at hc
          · rename_i hlo
            split at hc
            · rename_i hhi
              simp only [Option.some.injEq, Prod.mk.injEq] at hc
              obtain ⟨rfl, rfl, rfl, rfl, rfl, rfl, rfl⟩ := hc
              obtain ⟨q1, e1, g1⟩ := evI_B (ρ := ρ) 0 hlo hl
              obtain ⟨q2, e2, g2⟩ := evI_B (ρ := ρ) _ hhi hr
              have e3 : evB (renT ρ m) none = some none := rfl
              obtain ⟨c, hcb⟩ := evX_vld ht hx
              simp only [evP, hop, evX_ren hx, renV, hcb, e1, e2, e3, evSlice, hT, hz, g1, g2, Option.getD_none]
              rw [if_pos ⟨.inl trivial, h1, h2, Nat.le_refl _⟩]
            · simp at hc
          · simp at hc
        · simp at hc
      · simp at hc
    · simp at hc
  · simp at hc
theorem Safe.slO {d : Nat} {dr : Dr} {b off len cap k : Nat} {lo hi : Option Int} (l r : Nat) (h1 : l ≤ r) (h2 : r ≤ cap) (hc : isSlO P m o = some (b, off, len, cap, k, lo, hi)) (hl : lo.getD ((0 : Nat) : Int) = (l : Int)) (hr : hi.getD (len : Int) = (r : Int)) (hrd : rdyO arr kn m n o = some d)
    (hs : Safe nb P ρr n Q (.ops arr dr.nx os κ ((d, none) :: kn) ((d, .slice b (if cap = l then off else off + l * k) (r - l) (cap - l)) :: m) h nx hf dl)) (hck : ckA h (.slice b (if cap = l then off else off + l * k) (r - l) (cap - l)) dr = true := by rfl) : Safe nb P ρr n Q (.ops arr dr (o :: os) κ kn m h nx hf dl) := Safe.valA (eva_slO l r hl hr h1 h2 hc) hrd hs hck
theorem cat_put {α : Type} {enc : α → List V} {k : Nat} (hk : ∀ x, (enc x).length = k) {R : List α} {i : Nat} (hi : i < R.length) (v : α) : putL (cat enc R) (i * k) (enc v) = cat enc (R.set i v) := by
  unfold putL
  have e : i * k + (enc v).length = (i + 1) * k := by rw [hk, Nat.add_mul, Nat.one_mul]
  rw [e, cat_take hk, cat_drop hk, List.set_eq_take_append_cons_drop, if_pos hi, cat_append, cat_cons, List.append_assoc]
end Go.Fw
end

section
namespace Go.Fw
variable [Gl]
variable {P : Program} {ρr : Option Nat} {n nb : Nat} {Q : LPo} {arr : Array Oper} {o : Oper} {os : List Oper} {κ : List Kt} {kn : Kn} {m : Fl} {h hf : Hp} {nx : Nat} {dl : List Nat}
variable {fu : Nat} {L : List Nat} {K : KD} {i : Nat}
theorem DS.safe {is : List Nat} {ck : List (Bool × Bool)} (hck : (ckP arr L is == ck && (rdy arr (is.reverse ++ L)).isEmpty && Nat.beq fu is.length && is.all (fun i => Nat.blt i arr.size)) = true)
    (hs : Safe nb P ρr n Q (.ops arr (.at_ (L, is) ck) (is.filterMap (arr[·]?)) κ kn m h nx hf dl)) : DS nb P ρr n arr fu L kn m h nx hf fun kn m h nx hf => PK nb P ρr n Q κ .normal m h nx hf dl := by
  simp only [Bool.and_eq_true, beq_iff_eq, List.isEmpty_iff] at hck
  obtain ⟨⟨⟨c1, c2⟩, c3⟩, c4⟩ := hck
  obtain ⟨hos, hlen⟩ := os_is c4
  have := hs ⟨hos, c1.symm, by simpa using c2⟩
  rw [hlen, ← Nat.eq_of_beq_eq_true c3] at this
  exact this
theorem Safe.fork2 {i j : Nat} {o o' : Oper} {jj : Ord} {ck : List (Bool × Bool)} {ow : Oper} (hr : (rdy arr jj.1 == [i, j]) = true) (ho : arr.toList[i]? = some o) (ho' : arr.toList[j]? = some o')
    (h1 : DStp nb P ρr n arr os.length jj.1 i o kn m h nx hf fun kn m h nx hf => PK nb P ρr n Q κ .normal m h nx hf dl)
    (h2 : DStp nb P ρr n arr os.length jj.1 j o' kn m h nx hf fun kn m h nx hf => PK nb P ρr n Q κ .normal m h nx hf dl) : Safe nb P ρr n Q (.ops arr (.at_ jj ck) (ow :: os) κ kn m h nx hf dl) := fun _ =>
  DS.fork2 hr ho ho' h1 h2
end Go.Fw
end

section
namespace Go.Fw
variable [Gl]
variable {P : Program} {ρr : Option Nat} {n nb : Nat} {Q : LPo} {arr : Array Oper} {o : Oper} {os : List Oper} {κ : List Kt} {kn : Kn} {m : Fl} {h hf : Hp} {nx : Nat} {dl : List Nat}
theorem Safe.capO {d : Nat} {T e : TypeId} {a : Operand} {b o' len c : Nat} (hop : o.op = .call { callee := .builtin .cap, args := #[a], argTypes := #[T] }) (hT : tslice P T = some e) (ha : evX m a = some (.slice b o' len c)) (hr : rdyO arr kn m n o = some d)
    (hs : Safe nb P ρr n Q (.ops arr .no os κ ((d, none) :: kn) ((d, .int .i64 c) :: m) h nx hf dl)) : Safe nb P ρr n Q (.ops arr .no (o :: os) κ kn m h nx hf dl) := by
  refine Safe.op hr (LS.real fun ρ hg hn ht => ?_)
  obtain ⟨q, hq⟩ := evX_vld ht ha
  have ha' := evX_ren (ρ := ρ) ha
  simp only [renV, hq] at ha'
  exact OpS.cap hop hT ha' ⟨ρ, .int .i64 c, h, nx, hf, agr.refl _ _, hg, by rw [renT_pu]; exact Ent.refl _ _, hs⟩
theorem zcells_dry {z : List V} (hz : z.all dry = true) (k : Nat) : (zcells z k).all dry = true := by
  rw [List.all_eq_true]
  intro v hv
  simp only [zcells, List.mem_map] at hv
  obtain ⟨i, _, rfl⟩ := hv
  rw [List.getD_eq_getElem?_getD]
  cases h : z[i % z.length]? with
  | none => rfl
  | some u => exact List.all_eq_true.1 hz u (List.mem_of_getElem? h)
theorem Safe.appZ {d k by_ len cap j p o' nn : Nat} {sT e xT : TypeId} {a b : Operand} {T : TypeId} {z cs : List V} {kn' kx : IntKind} {J : Int} (hop : o.op = .call { callee := .builtin .append, args := #[a, b], argTypes := #[sT, xT] }) (he : elemE P sT = some (e, k, by_, z)) (hxT : P.underlying xT = some (.int kn'))
    (ha : evX m a = some (.slice p o' len cap)) (hb : evX m b = some (.int kx J)) (hJ : J = (j : Nat)) (hg : hget h p = some (.cells T cs nn)) (hl : o' + len * k ≤ cs.length) (hcap : cap < len + j) (hj : 0 < j) (hbd : len + j ≤ 100000000) (hzd : z.all dry = true) (hr : rdyO arr kn m n o = some d)
    (hs : ∀ N', len + j ≤ N' → Safe nb P ρr n Q (.ops arr .no os κ ((d, none) :: kn) ((d, .slice nx 0 (len + j) N') :: m) ((nx, .cells e ((cs.drop o').take (len * k) ++ zcells z (j * k)) (N' * k)) :: h) (nx + 1) hf dl)) :
    Safe nb P ρr n Q (.ops arr .no (o :: os) κ kn m h nx hf dl) := by
  subst hJ
  have hbd2 := bnd_app (elemE_b he) hbd
  refine Safe.op hr (LS.real fun ρ hg2 hn ht => ?_)
  obtain ⟨c, hc⟩ := evX_vld ht ha
  have ha' := evX_ren (ρ := ρ) ha
  have hg' := hget_ren (ρ := ρ) hg hn
  rw [ky_eq hc] at hg'
  simp only [renV, hc] at ha'
  refine OpS.append_zeros ⟨hop⟩ (elemE_ok he) hxT ha' (evX_ren hb) hg' (by rw [renL_length]; exact hl) hcap hj hbd2 fun q N' hq hN' => ?_
  have e1 : ((renL ρ cs).drop o').take (len * k) ++ zcells z (j * k) = renL ρ ((cs.drop o').take (len * k) ++ zcells z (j * k)) := by
    rw [renL_drop, renL_take, renL_append, dryL_ren ρ (zcells_dry hzd _)]
  rw [e1]
  have hod := rdyO_dst hr
  have := ent_new (b := q) (mkl := .slice nx 0 (len + j) N') (obl := .cells e ((cs.drop o').take (len * k) ++ zcells z (j * k)) (N' * k)) (d := o.dst) (hf := hf) (m := m) (hg2.fresh nx (Nat.le_refl _)) hg2.keys
  simp only [renV, rex, if_pos, renO] at this
  exact ⟨rex ρ nx q, .slice nx 0 (len + j) N', (nx, .cells e ((cs.drop o').take (len * k) ++ zcells z (j * k)) (N' * k)) :: h, nx + 1, hf, agr_rex hg2.base q, hg2.push q _, this, hs N' hN'⟩
theorem Safe.cpS {d k l2 c2 o2 p2 nn2 len cap p o' nn : Nat} {sT e xT : TypeId} {a b : Operand} {T T2 : TypeId} {cs cs2 : List V} (hop : o.op = .call { callee := .builtin .copy, args := #[a, b], argTypes := #[sT, xT] }) (hsl : tslice P sT = some e) (hsz : tsz P e = some k)
    (ha : evX m a = some (.slice p o' len cap)) (hb : evX m b = some (.slice p2 o2 l2 c2)) (hg : hget h p = some (.cells T cs nn)) (hg2 : hget h p2 = some (.cells T2 cs2 nn2)) (hr : rdyO arr kn m n o = some d)
    (hl2 : o2 + (min l2 len) * k ≤ cs2.length) (hl : o' ≤ cs.length) (hln : o' + (min l2 len) * k ≤ nn) (hlf : ((cs2.drop o2).take ((min l2 len) * k)).all leafV = true)
    (hs : Safe nb P ρr n Q (.ops arr .no os κ ((d, none) :: kn) ((d, .int .i64 (min l2 len : Nat)) :: m) (hset h p (.cells T (putL cs o' ((cs2.drop o2).take ((min l2 len) * k))) nn)) nx hf dl)) :
    Safe nb P ρr n Q (.ops arr .no (o :: os) κ kn m h nx hf dl) := by
  refine Safe.op hr (LS.real fun ρ gd hn ht => ?_)
  obtain ⟨c, hc⟩ := evX_vld ht ha
  obtain ⟨c', hc'⟩ := evX_vld ht hb
  have ha' := evX_ren (ρ := ρ) ha
  have hb' := evX_ren (ρ := ρ) hb
  simp only [renV, hc] at ha'
  simp only [renV, hc'] at hb'
  have hg' := hget_ren (ρ := ρ) hg hn
  have hg2' := hget_ren (ρ := ρ) hg2 hn
  rw [ky_eq hc] at hg'
  rw [ky_eq hc'] at hg2'
  simp only [renO] at hg' hg2'
  refine OpS.copyS ⟨hop⟩ hsl hsz ha' hb' hg' hg2' (by rw [renL_length]; exact hl2) (by rw [renL_length]; exact hl) hln (by rw [renL_drop, renL_take]; exact all_leaf_ren hlf) ?_
  have hset' := hset_ren (ρ := ρ) (hf := hf) (o' := .cells T (putL cs o' ((cs2.drop o2).take ((min l2 len) * k))) nn) hg hn
  rw [ky_eq hc] at hset'
  refine ⟨ρ, .int .i64 (min l2 len : Nat), _, nx, hf, agr.refl _ _, hset_keys gd, ?_, hs⟩
  rw [renT_pu, ← hset', renO, renL_drop, renL_take, putL_ren]
  exact Ent.refl _ _
theorem Safe.ovl {d : Nat} {f : FuncId} {tS tR e : TypeId} {k b1 l1 c1 b2 o2 l2 c2 n1 n2 : Nat} {T1 T2 : TypeId} {cs1 cs2 : List V} (hv : IsOverlaps P f tS tR e k) (hc : callee? m o = some (f, [.slice b1 0 l1 c1, .slice b2 o2 l2 c2])) (hr : rdyO arr kn m n o = some d)
    (hv1 : ∀ ρ, vldT ρ m → ∃ q1 q2, ρ b1 = some q1 ∧ ρ b2 = some q2) (h1 : hget h b1 = some (.cells T1 cs1 n1)) (h2 : hget h b2 = some (.cells T2 cs2 n2)) (hn1 : 0 < n1) (hn2 : 0 < n2) (hnn : n1 ≠ n2) (hT1 : T1 ≠ 5)
    (hs : Safe nb P ρr n Q (.ops arr .no os κ ((d, none) :: kn) ((d, .bool false) :: m) h nx hf dl)) : Safe nb P ρr n Q (.ops arr .no (o :: os) κ kn m h nx hf dl) := by
  refine Safe.callS hc hr fun ρ hg hn ht => ?_
  obtain ⟨q1, q2, e1, e2⟩ := hv1 ρ ht
  have g1 := hget_ren (ρ := ρ) h1 hn
  have g2 := hget_ren (ρ := ρ) h2 hn
  rw [ky_eq e1] at g1
  rw [ky_eq e2] at g2
  simp only [renL, renV, e1, e2]
  simp only [renO] at g1 g2
  have hne : q1 ≠ q2 := fun e => by
    subst e
    rw [g1] at g2
    simp only [Option.some.injEq, AObj.cells.injEq] at g2
    exact hnn g2.2.2
  exact CallS.overlaps hv hne g1 g2 hn1 hn2 hT1 ⟨ρ, .bool false, h, nx, hf, agr.refl _ _, hg, by rw [renT_pu]; exact Ent.refl _ _, hs⟩
theorem eva_slN {T e : TypeId} {x : Operand} {lo : Option Operand} {k : Nat} {l : Option Int} (hop : o.op = .slice T x lo none none) (hx : evX m x = some .nilslice) (hT : tslice P T = some e) (hk : tsz P e = some k) (hlo : evI m lo = some l) (hl : l.getD ((0 : Nat) : Int) = ((0 : Nat) : Int)) : EvA P m o .nilslice := by
  intro ρ h ht
  obtain ⟨q1, e1, g1⟩ := evI_B (ρ := ρ) 0 hlo hl
  have e3 : evB (renT ρ m) none = some none := rfl
  simp only [evP, hop, evX_ren hx, renV, e1, e3, evSlice, hT, hk, g1, Option.getD_none]
  simp
theorem Safe.slN {d : Nat} {dr : Dr} {T e : TypeId} {x : Operand} {lo : Option Operand} {k : Nat} {l : Option Int} (hop : o.op = .slice T x lo none none) (hx : evX m x = some .nilslice) (hT : tslice P T = some e) (hk : tsz P e = some k) (hlo : evI m lo = some l) (hl : l.getD ((0 : Nat) : Int) = ((0 : Nat) : Int)) (hrd : rdyO arr kn m n o = some d)
    (hs : Safe nb P ρr n Q (.ops arr dr.nx os κ ((d, none) :: kn) ((d, .nilslice) :: m) h nx hf dl)) (hck : ckA h .nilslice dr = true := by rfl) : Safe nb P ρr n Q (.ops arr dr (o :: os) κ kn m h nx hf dl) := Safe.valA (eva_slN hop hx hT hk hlo hl) hrd hs hck
end Go.Fw
end

section
namespace Go.Fw
variable [Gl]
variable {P : Program} {ρr : Option Nat} {n nb : Nat} {Q : LPo} {arr : Array Oper} {o : Oper} {os : List Oper} {κ : List Kt} {kn : Kn} {m : Fl} {h hf : Hp} {nx : Nat} {dl : List Nat}
end Go.Fw
end
