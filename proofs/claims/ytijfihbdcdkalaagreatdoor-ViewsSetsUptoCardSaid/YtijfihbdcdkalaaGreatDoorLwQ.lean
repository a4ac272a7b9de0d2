/- A part of the proof: LwQ -/
import Derived.Test.YtijfihbdcdkalaaGreatDoorLwP
set_option linter.all false
set_option linter.unusedSectionVars false
set_option linter.unusedVariables false
set_option linter.unusedSimpArgs false
namespace Go.Fw
variable [Gl]
variable {P : Program} {ρr : Option Nat} {n nb : Nat} {Q : LPo} {arr : Array Oper} {o : Oper} {os : List Oper} {κ : List Kt} {kn : Kn} {m : Fl} {h hf : Hp} {nx : Nat} {dl : List Nat} {dr : Dr}
theorem ent_new {ρ : Nat → Option Nat} {b : Nat} {mkl : V} {obl : AObj} {d : Option Nat} {h : Hp} (hx : ρ nx = none) (hk : keysOk ρ h) :
    Ent (updO (renT ρ m) d (renV (rex ρ nx b) mkl)) ((b, renO ρ obl) :: (renH ρ h ++ hf)) (renT (rex ρ nx b) (pu m d mkl)) (renH (rex ρ nx b) ((nx, obl) :: h) ++ hf) := by
  have hr := rex_le (b := b) hx
  rw [renT_pu]
  have e0 : ky (rex ρ nx b) nx = b := by simp [ky, rex]
  rw [renH_cons, List.cons_append]
  simp only [e0]
  refine Ent.trans (ent_le2 (pre := [(b, renO ρ obl)]) hr hk) ?_
  intro F w n tm ho hfr
  refine ⟨F, ⟨ho.nodup, fun b' o' hm => ?_, ho.off, ho.frz, ho.gl⟩, hfr, ⟨FLe.refl F, Nat.le_refl _, fun _ _ _ => rfl, fun b hb => .inl hb, fun _ hn => absurd rfl hn, rfl, rfl, rfl, Nat.le_refl _⟩⟩
  rcases List.mem_cons.1 hm with e | hm
  · simp only [Prod.mk.injEq] at e
    obtain ⟨rfl, rfl⟩ := e
    obtain ⟨x, hx, r⟩ := ho.own b' (renO ρ obl) (by simp)
    exact ⟨x, hx, renO_le hr r⟩
  · exact ho.own b' o' (by simp only [List.singleton_append]; exact List.mem_cons_of_mem _ hm)
theorem good.del {ρ : Nat → Option Nat} (hg : good nb ρ nx h) (k : Nat) : good nb ρ nx (hdel h k) where
  fresh := hg.fresh
  keys := fun p hp => by
    have : p.1 ∈ h.ns := hdel_ns_sub h k _ (List.mem_map.2 ⟨p, hp, rfl⟩)
    obtain ⟨q', hq', e⟩ := List.mem_map.1 this
    rw [← e]; exact hg.keys q' hq'
  base := hg.base
theorem evSrc_ren {ρ : Nat → Option Nat} {k mm : Nat} {x : V} {us : List V} (va : vld ρ x) (hs : evSrc h k x = some (us, mm)) (hd : us.all dry = true) (hn : (renH ρ h ++ hf).ns.Nodup) : evSrc (renH ρ h ++ hf) k (renV ρ x) = some (us, mm) := by
  have hdr := dryL_ren ρ hd
  unfold evSrc at hs
  split at hs
  · simp only [Option.some.injEq, Prod.mk.injEq] at hs; obtain ⟨rfl, rfl⟩ := hs; rfl
  · simp only [Option.some.injEq, Prod.mk.injEq] at hs; obtain ⟨rfl, rfl⟩ := hs; rfl
  · split at hs
    · rename_i hg
      split at hs
      · rename_i hl
        simp only [Option.some.injEq, Prod.mk.injEq] at hs
        obtain ⟨rfl, rfl⟩ := hs
        obtain ⟨c, hc⟩ := va
        have hg' := hget_ren (ρ := ρ) hg hn
        rw [ky_eq hc] at hg'
        simp only [renV, hc, evSrc, hg', renO, renL_length]
        rw [if_pos hl, renL_drop, renL_take, hdr]
      · simp at hs
    · simp at hs
  · split at hs
    · rename_i hl
      simp only [Option.some.injEq, Prod.mk.injEq] at hs
      obtain ⟨rfl, rfl⟩ := hs
      simp only [renV, evSrc]; rw [if_pos hl]
    · simp at hs
  · split at hs
    · rename_i hk
      simp only [Option.some.injEq, Prod.mk.injEq] at hs
      obtain ⟨rfl, rfl⟩ := hs
      simp only [renV, evSrc, if_pos hk]
    · simp at hs
  · simp at hs
def elemE (P : Program) (sT : TypeId) : Option (TypeId × Nat × Nat × List V) := match tslice P sT with
  | some e => match tsz P e with
    | some k => match tby P e with
      | some b => match tzero P e with
        | some z => match Nat.beq z.length k && Nat.blt 0 k && Nat.blt 0 b && Nat.ble b 1000000 with
          | true => some (e, k, b, z)
          | false => none
        | none => none
      | none => none
    | none => none
  | none => none
theorem elemE_ok {sT e : TypeId} {k b : Nat} {z : List V} (h : elemE P sT = some (e, k, b, z)) : ElemOk P sT e k b z := by
  unfold elemE at h
  split at h
  · rename_i h1
    split at h
    · rename_i h2
      split at h
      · rename_i h3
        split at h
        · rename_i h4
          split at h
          · rename_i h5
            simp only [Bool.and_eq_true] at h5
            simp only [Option.some.injEq, Prod.mk.injEq] at h
            obtain ⟨rfl, rfl, rfl, rfl⟩ := h
            exact ⟨h1, h2, h3, h4, Nat.eq_of_beq_eq_true h5.1.1.1, blt_lt h5.1.1.2, blt_lt h5.1.2⟩
          · simp at h
        · simp at h
      · simp at h
    · simp at h
  · simp at h
theorem elemE_b {sT e : TypeId} {k b : Nat} {z : List V} (h : elemE P sT = some (e, k, b, z)) : b ≤ 1000000 := by
  unfold elemE at h
  repeat' split at h
  all_goals first
    | (simp at h; done)
    | (rename_i h5
       simp only [Bool.and_eq_true] at h5
       simp only [Option.some.injEq, Prod.mk.injEq] at h
       obtain ⟨rfl, rfl, rfl, rfl⟩ := h
       exact Nat.le_of_ble_eq_true h5.2)
theorem rdyO_dst {d : Nat} (hr : rdyO arr kn m n o = some d) : o.dst = some d := by
  unfold rdyO at hr
  split at hr
  · split at hr
    · split at hr
      · simp only [Option.some.injEq] at hr; subst hr; assumption
      · cases hr
    · cases hr
  · cases hr
theorem bnd_app {x by_ : Nat} (h1 : by_ ≤ 1000000) (h2 : x ≤ 100000000) : (2 * x + 192) * by_ ≤ 281474976710656 :=
  Nat.le_trans (Nat.mul_le_mul (show 2 * x + 192 ≤ 200000192 by omega) h1) (by decide)
theorem Safe.appS {d k kk by_ len mm N : Nat} {sT e xT : TypeId} {a b : Operand} {z cs us cs2 : List V} {x : V} {len2 : Nat} (hop : o.op = .call { callee := .builtin .append, args := #[a, b], argTypes := #[sT, xT] }) (he : elemE P sT = some (e, kk, by_, z)) (hxT : appT P xT = true)
    (ha : evX m a = some (.slice k 0 len N)) (hb : evX m b = some x) (hg : hget h k = some (.cells e cs (N * kk))) (hsrc : evSrc h kk x = some (us, mm)) (hr : rdyO arr kn m n o = some d)
    (hcs2 : cs ++ us = cs2) (hl2 : len + mm = len2) (hlen : cs.length = len * kk) (hud : us.all dry = true) (hlf : us.all leafV = true) (hbd : len + mm ≤ 100000000)
    (hs : ∀ N', len2 ≤ N' → Safe nb P ρr n Q (.ops arr .no os κ ((d, none) :: kn) ((d, .slice nx 0 len2 N') :: m) ((nx, .cells e cs2 (N' * kk)) :: hdel h k) (nx + 1) hf dl)) :
    Safe nb P ρr n Q (.ops arr .no (o :: os) κ kn m h nx hf dl) := by
  subst hcs2 hl2
  have hbd2 := bnd_app (elemE_b he) hbd
  refine Safe.op hr (LS.real fun ρ hg2 hn ht => ?_)
  have ha' := evX_ren (ρ := ρ) ha
  obtain ⟨c, hc⟩ := evX_vld ht ha
  have hg' := hget_ren (ρ := ρ) hg hn
  have hdel' := hdel_ren (ρ := ρ) (hf := hf) hg hn
  rw [ky_eq hc] at hg' hdel'
  simp only [renV, hc] at ha'
  refine OpS.append_lin ⟨hop⟩ (elemE_ok he) hxT ha' (evX_ren hb) hg' (by rw [renL_length]; omega) (evSrc_ren (evX_vld ht hb) hsrc hud hn) hlf hbd2 fun q N' hq hN' => ?_
  rw [hdel'] at hq ⊢
  have e1 : (renL ρ cs).take (len * kk) ++ us = renL ρ (cs ++ us) := by
    rw [List.take_of_length_le (by rw [renL_length]; omega), renL_append, dryL_ren ρ hud]
  rw [e1]
  have hod := rdyO_dst hr
  have := ent_new (b := q) (mkl := .slice nx 0 (len + mm) N') (obl := .cells e (cs ++ us) (N' * kk)) (d := o.dst) (hf := hf) (m := m) (hg2.fresh nx (Nat.le_refl _)) (hg2.del k).keys
  simp only [renV, rex, if_pos, renO] at this
  exact ⟨rex ρ nx q, .slice nx 0 (len + mm) N', (nx, .cells e (cs ++ us) (N' * kk)) :: hdel h k, nx + 1, hf, agr_rex hg2.base q, (hg2.del k).push q _, this, hs N' hN'⟩
theorem Safe.appN {d kk by_ mm : Nat} {sT e xT : TypeId} {a b : Operand} {z us : List V} {x : V} (hop : o.op = .call { callee := .builtin .append, args := #[a, b], argTypes := #[sT, xT] }) (he : elemE P sT = some (e, kk, by_, z)) (hxT : appT P xT = true)
    (ha : evX m a = some .nilslice) (hb : evX m b = some x) (hsrc : evSrc h kk x = some (us, mm)) (hr : rdyO arr kn m n o = some d) (hm : 0 < mm) (hud : us.all dry = true) (hbd : mm ≤ 100000000)
    (hs : ∀ N', mm ≤ N' → Safe nb P ρr n Q (.ops arr .no os κ ((d, none) :: kn) ((d, .slice nx 0 mm N') :: m) ((nx, .cells e us (N' * kk)) :: h) (nx + 1) hf dl)) :
    Safe nb P ρr n Q (.ops arr .no (o :: os) κ kn m h nx hf dl) := by
  have hbd2 := bnd_app (elemE_b he) hbd
  refine Safe.op hr (LS.real fun ρ hg2 hn ht => ?_)
  have ha' := evX_ren (ρ := ρ) ha
  simp only [renV] at ha'
  refine OpS.append_nil ⟨hop⟩ (elemE_ok he) hxT ha' (evX_ren hb) (evSrc_ren (evX_vld ht hb) hsrc hud hn) (by simpa using hbd2) (fun h0 => absurd h0 (by omega)) (fun h0 q N' hq hN' => ?_)
  have hod := rdyO_dst hr
  have := ent_new (b := q) (mkl := .slice nx 0 mm N') (obl := .cells e us (N' * kk)) (d := o.dst) (hf := hf) (m := m) (hg2.fresh nx (Nat.le_refl _)) hg2.keys
  simp only [renV, rex, if_pos, renO, dryL_ren ρ hud] at this
  have h2 := hg2.push (nx := nx) q (.cells e us (N' * kk))
  refine ⟨rex ρ nx q, .slice nx 0 mm N', (nx, .cells e us (N' * kk)) :: h, nx + 1, hf, agr_rex hg2.base q, h2, ?_, hs N' (by omega)⟩
  exact this
theorem Safe.make0 {d kk by_ c : Nat} {T e : TypeId} {a b : Operand} {k1 k2 : IntKind} {z : List V} (hop : o.op = .makeSlice T a b) (he : elemE P T = some (e, kk, by_, z)) (ha : evX m a = some (.int k1 ((0 : Nat) : Int))) (hb : evX m b = some (.int k2 (c : Nat))) (hr : rdyO arr kn m n o = some d) (hc : c ≤ 100000000)
    (hs : Safe nb P ρr n Q (.ops arr .no os κ ((d, none) :: kn) ((d, .slice nx 0 0 c) :: m) ((nx, .cells e [] (c * kk)) :: h) (nx + 1) hf dl)) :
    Safe nb P ρr n Q (.ops arr .no (o :: os) κ kn m h nx hf dl) := by
  have hc := Nat.le_trans (Nat.mul_le_mul hc (elemE_b he)) (show 100000000 * 1000000 ≤ 281474976710656 by decide)
  refine Safe.op hr (LS.real fun ρ hg2 hn ht => ?_)
  refine OpS.makeSlice hop (elemE_ok he) (evX_ren ha) (evX_ren hb) (Nat.zero_le _) hc fun q hq => ?_
  have := ent_new (b := q) (mkl := .slice nx 0 0 c) (obl := .cells e [] (c * kk)) (d := o.dst) (hf := hf) (m := m) (hg2.fresh nx (Nat.le_refl _)) hg2.keys
  simp only [renV, rex, if_pos, renO, renL] at this
  refine ⟨rex ρ nx q, .slice nx 0 0 c, (nx, .cells e [] (c * kk)) :: h, nx + 1, hf, agr_rex hg2.base q, hg2.push q _, Ent.trans ?_ this, hs⟩
  intro F w n tm ho hfr
  refine ⟨F, ⟨ho.nodup, fun b' o' hm => ?_, ho.off, ho.frz, ho.gl⟩, hfr, ⟨FLe.refl F, Nat.le_refl _, fun _ _ _ => rfl, fun b hb => .inl hb, fun _ hn => absurd rfl hn, rfl, rfl, rfl, Nat.le_refl _⟩⟩
  rcases List.mem_cons.1 hm with e | hm
  · simp only [Prod.mk.injEq] at e
    obtain ⟨rfl, rfl⟩ := e
    obtain ⟨x, hx, r⟩ := ho.own b' _ (List.mem_cons_self ..)
    refine ⟨x, hx, ?_⟩
    generalize hcc : c * kk = cc at r ⊢
    cases r with
    | cells _ _ cv fz hl hz hv => exact .cells e [] cv fz (Nat.zero_le _) hz fun i v hv => by simp at hv
  · exact ho.own b' o' (List.mem_cons_of_mem _ hm)
def isIdxO (P : Program) (m : Fl) (o : Oper) : Option (Nat × Nat × Nat × Int × Nat) := match o.op with
  | .indexAddr T x i => match evX m x with
    | some (.slice b o' len cap) => match evX m i with
      | some (.int _ j) => match tslice P T with
        | some e => match tsz P e with
          | some k => some (b, o', len, j, k)
          | none => none
        | none => none
      | _ => none
    | some (.ptr b o') => match evX m i with
      | some (.int _ j) => match tarr P T with
        | some (len, e) => match tsz P e with
          | some k => some (b, o', len, j, k)
          | none => none
        | none => none
      | _ => none
    | _ => none
  | _ => none
theorem ev_idxO {b o' len k : Nat} {j : Int} {i : Nat} (hi : i < len) (hj : j = (i : Int)) (hc : isIdxO P m o = some (b, o', len, j, k)) : EvA P m o (.ptr b (o' + i * k)) := by
  intro ρ h ht
  subst hj
  unfold isIdxO at hc
  split at hc
  · rename_i hop
    split at hc
    · rename_i ha
      split at hc
      · rename_i hb
        split at hc
        · rename_i hT
          split at hc
          · rename_i hk
            simp only [Option.some.injEq, Prod.mk.injEq] at hc
            obtain ⟨rfl, rfl, rfl, rfl, rfl⟩ := hc
            obtain ⟨c, hcb⟩ := evX_vld ht ha
            simp only [evP, hop, evX_ren ha, evX_ren hb, renV, hcb, evIndexAddr, hT, hk]
            rw [if_pos (by omega)]
            simp
          · simp at hc
        · simp at hc
      · simp at hc
    · rename_i ha
      split at hc
      · rename_i hb
        split at hc
        · rename_i hT
          split at hc
          · rename_i hk
            simp only [Option.some.injEq, Prod.mk.injEq] at hc
            obtain ⟨rfl, rfl, rfl, rfl, rfl⟩ := hc
            obtain ⟨c, hcb⟩ := evX_vld ht ha
            simp only [evP, hop, evX_ren ha, evX_ren hb, renV, hcb, evIndexAddr, hT, hk]
            rw [if_pos (by omega)]
            simp
          · simp at hc
        · simp at hc
      · simp at hc
    · simp at hc
  · simp at hc
theorem Safe.idxO {d : Nat} {b o' len k : Nat} {j : Int} {i : Nat} (hi : i < len) (hj : j = (i : Int)) (hc : isIdxO P m o = some (b, o', len, j, k)) (hr : rdyO arr kn m n o = some d)
    (hs : Safe nb P ρr n Q (.ops arr dr.nx os κ ((d, none) :: kn) ((d, .ptr b (o' + i * k)) :: m) h nx hf dl)) (hck : ckA h (.ptr b (o' + i * k)) dr = true := by rfl) : Safe nb P ρr n Q (.ops arr dr (o :: os) κ kn m h nx hf dl) :=
  Safe.valA (ev_idxO hi hj hc) hr hs hck
def isLoadO (m : Fl) (h : Hp) (o : Oper) : Option (TypeId × List V × Nat) := match o.op with
  | .load T a => match evX m a with
    | some (.ptr b off) => match hget h b with
      | some (.cells _ cs _) => some (T, cs, off)
      | _ => none
    | _ => none
  | _ => none
theorem ev_ldO {T : TypeId} {cs : List V} {off : Nat} {v : V} (hv : ldAt P T cs off = some v) (hc : isLoadO m h o = some (T, cs, off)) : Ev P m h hf o v := by
  intro ρ hn ht
  unfold isLoadO at hc
  split at hc
  · rename_i hop
    split at hc
    · rename_i ha
      split at hc
      · rename_i hg
        simp only [Option.some.injEq, Prod.mk.injEq] at hc
        obtain ⟨rfl, rfl, rfl⟩ := hc
        obtain ⟨c, hcb⟩ := evX_vld ht ha
        have hg' := hget_ren (ρ := ρ) hg hn
        rw [ky_eq hcb] at hg'
        simp only [evP, hop, evX_ren ha, renV, hcb, Option.bind_some, evLoad, hg', renO]
        exact ldAt_ren hv
      · simp at hc
    · simp at hc
  · simp at hc
theorem Safe.ldO {d : Nat} {T : TypeId} {cs : List V} {off : Nat} {v : V} (hv : ldAt P T cs off = some v) (hc : isLoadO m h o = some (T, cs, off)) (hr : rdyO arr kn m n o = some d)
    (hs : Safe nb P ρr n Q (.ops arr dr.nx os κ ((d, none) :: kn) ((d, v) :: m) h nx hf dl)) (hck : ckV h o v dr = true := by rfl) : Safe nb P ρr n Q (.ops arr dr (o :: os) κ kn m h nx hf dl) :=
  Safe.val (ev_ldO hv hc) hr hs hck
def gdOk (arr : Array Oper) (kn : Kn) (m : Fl) (o : Oper) : Bool := match gsO arr kn m o with
  | .run => match o.dst with
    | none => true
    | _ => false
  | _ => false
theorem gdOk_run (hk : KnOk kn m) (hr : gdOk arr kn m o = true) : gdL arr m o true ∧ o.dst = none := by
  unfold gdOk at hr
  split at hr
  · rename_i hg
    split at hr
    · exact ⟨gsO_run hk hg, by assumption⟩
    · simp at hr
  · simp at hr
theorem Safe.opN (hr : gdOk arr kn m o = true) (hs : LS nb P ρr n o m h nx hf fun v h nx hf => Safe nb P ρr n Q (.ops arr .no os κ kn m h nx hf dl)) : Safe nb P ρr n Q (.ops arr .no (o :: os) κ kn m h nx hf dl) := fun hk => by
  obtain ⟨hg, hd⟩ := gdOk_run hk hr
  refine LO.run hg (dstOk_no hd) (hs.mono fun v h nx hf hq => ?_)
  rw [hd]
  exact hq hk
theorem Safe.stO {T T' : TypeId} {a x : Operand} {k off nn : Nat} {cs : List V} {v : V} (hop : o.op = .store T a x) (ha : evX m a = some (.ptr k off)) (hx : evX m x = some v) (hg : hget h k = some (.cells T' cs nn)) (hr : gdOk arr kn m o = true)
    (hsz : tsz P T = some (vcells v).length) (hl : off + (vcells v).length ≤ cs.length) (hlf : (vcells v).all leafV = true)
    (hs : Safe nb P ρr n Q (.ops arr .no os κ kn m (hset h k (.cells T' (stL cs off (vcells v)) nn)) nx hf dl)) : Safe nb P ρr n Q (.ops arr .no (o :: os) κ kn m h nx hf dl) := by
  refine Safe.opN hr (LS.real fun ρ gd hn ht => ?_)
  obtain ⟨c, hcb⟩ := evX_vld ht ha
  have hg' := hget_ren (ρ := ρ) hg hn
  have ha' := evX_ren (ρ := ρ) ha
  simp only [renV, hcb] at ha'
  refine OpS.store hop ha' (evX_ren hx) ?_
  simp only [WStore]
  rw [ky_eq hcb] at hg'
  simp only [hg', renO, vcells_ren, renL_length]
  refine ⟨hsz, hl, all_leaf_ren hlf, ρ, .tup [], _, nx, hf, agr.refl _ _, hset_keys gd, ?_, hs⟩
  have hset' := hset_ren (ρ := ρ) (hf := hf) (o' := .cells T' (stL cs off (vcells v)) nn) hg hn
  rw [ky_eq hcb] at hset'
  have hd : o.dst = none := by
    unfold gdOk at hr
    split at hr
    · split at hr
      · assumption
      · simp at hr
    · simp at hr
  rw [hd, ← hset', stL_ren]
  exact Ent.refl _ _
def dryM (es : List (V × V)) : Bool := es.all fun e => dry e.1 && dry e.2
theorem dryM_ren (ρ : Nat → Option Nat) {es : List (V × V)} (h : dryM es = true) : (es.map fun e => (renV ρ e.1, renV ρ e.2)) = es := by
  conv => rhs; rw [← List.map_id es]
  refine List.map_congr_left fun e he => ?_
  have := List.all_eq_true.1 h e he
  simp only [Bool.and_eq_true] at this
  rw [dry_ren ρ this.1, dry_ren ρ this.2]; rfl
def lkM (z : V) (ok : Bool) (es : List (V × V)) (r : Option Nat) : V := if ok = true then .tup [(r.bind fun j => (es[j]?).map (·.2)).getD z, .bool r.isSome] else (r.bind fun j => (es[j]?).map (·.2)).getD z
theorem ls_lookup {T kT eT : TypeId} {x i : Operand} {ok : Bool} {b : Nat} {es : List (V × V)} {k z v : V} {r : Option Nat} {K2 : V → Hp → Nat → Hp → Prop} (hop : o.op = .lookup T x i ok) (hT : tmap P T = some (kT, eT)) (hz : tzv P eT = some z) (hx : evX m x = some (.map b)) (hi : evX m i = some k) (hk : tkey P kT k = true)
    (hg : hget h b = some (.map es)) (hes : dryM es = true) (hkd : dry k = true) (hr : mix k es = some r) (hv : lkM z ok es r = v) (hvd : dry v = true) (hK : K2 v h nx hf) : LS nb P ρr n o m h nx hf K2 := by
  refine LS.real fun ρ hg2 hn ht => ?_
  obtain ⟨c, hc⟩ := evX_vld ht hx
  have hx' := evX_ren (ρ := ρ) hx
  have hi' := evX_ren (ρ := ρ) hi
  rw [dry_ren ρ hkd] at hi'
  simp only [renV, hc] at hx'
  have hg' := hget_ren (ρ := ρ) hg hn
  rw [ky_eq hc] at hg'
  simp only [renO, dryM_ren ρ hes] at hg'
  refine OpS.lookup hop hT hz hx' hi' hk hg' hr ?_
  have e : (if ok = true then V.tup [(r.bind fun j => (es[j]?).map (·.2)).getD z, .bool r.isSome] else (r.bind fun j => (es[j]?).map (·.2)).getD z) = v := hv
  rw [e]
  exact ⟨ρ, v, h, nx, hf, agr.refl _ _, hg2, by rw [renT_pu, dry_ren ρ hvd]; exact Ent.refl _ _, hK⟩
theorem Safe.lookup {d : Nat} {T kT eT : TypeId} {x i : Operand} {ok : Bool} {b : Nat} {es : List (V × V)} {k z v : V} {r : Option Nat} (hr : mix k es = some r) (hv : lkM z ok es r = v) (hop : o.op = .lookup T x i ok) (hT : tmap P T = some (kT, eT)) (hz : tzv P eT = some z) (hx : evX m x = some (.map b)) (hi : evX m i = some k) (hk : tkey P kT k = true)
    (hg : hget h b = some (.map es)) (hrd : rdyO arr kn m n o = some d) (hes : dryM es = true) (hkd : dry k = true) (hvd : dry v = true)
    (hs : Safe nb P ρr n Q (.ops arr .no os κ ((d, none) :: kn) ((d, v) :: m) h nx hf dl)) : Safe nb P ρr n Q (.ops arr .no (o :: os) κ kn m h nx hf dl) :=
  Safe.op hrd (ls_lookup hop hT hz hx hi hk hg hes hkd hr hv hvd hs)
theorem Safe.mkMap {d : Nat} {T : TypeId} (hop : o.op = .makeMap T none) (hrd : rdyO arr kn m n o = some d) (hs : Safe nb P ρr n Q (.ops arr .no os κ ((d, none) :: kn) ((d, .map nx) :: m) ((nx, .map []) :: h) (nx + 1) hf dl)) : Safe nb P ρr n Q (.ops arr .no (o :: os) κ kn m h nx hf dl) :=
  Safe.op hrd (LS.new (mk := fun b => .map b) (mkl := .map nx) (obl := .map []) (fun ρ b => by simp [renV, rex]) (fun ρ K hn ht hw => OpS.makeMap hop fun b hb => hw b hb) hs)
theorem Safe.mapSet {T kT eT : TypeId} {mm i x : Operand} {b : Nat} {es es' : List (V × V)} {k v : V} (hr : mput k v es = some es') (hop : o.op = .mapUpdate T mm i x ∨ o.op = .insert T mm i x) (hT : tmap P T = some (kT, eT)) (hm : evX m mm = some (.map b)) (hi : evX m i = some k) (hx : evX m x = some v) (hk : tkey P kT k = true)
    (hg : hget h b = some (.map es)) (hrd : gdOk arr kn m o = true) (hes : dryM es = true) (hkd : dry k = true) (hvd : dry v = true) (hes' : dryM es' = true)
    (hs : Safe nb P ρr n Q (.ops arr .no os κ kn m (hset h b (.map es')) nx hf dl)) : Safe nb P ρr n Q (.ops arr .no (o :: os) κ kn m h nx hf dl) := by
  refine Safe.opN hrd (LS.real fun ρ gd hn ht => ?_)
  obtain ⟨c, hc⟩ := evX_vld ht hm
  have hm' := evX_ren (ρ := ρ) hm
  have hi' := evX_ren (ρ := ρ) hi
  have hx' := evX_ren (ρ := ρ) hx
  rw [dry_ren ρ hkd] at hi'
  rw [dry_ren ρ hvd] at hx'
  simp only [renV, hc] at hm'
  have hg' := hget_ren (ρ := ρ) hg hn
  have hset' := hset_ren (ρ := ρ) (hf := hf) (o' := .map es') hg hn
  rw [ky_eq hc] at hg' hset'
  simp only [renO, dryM_ren ρ hes] at hg'
  simp only [renO, dryM_ren ρ hes'] at hset'
  refine OpS.mapUpdate hop hT hm' hi' hx' hk hg' hr ⟨ρ, .tup [], _, nx, hf, agr.refl _ _, hset_keys gd, ?_, hs⟩
  rw [hset']
  have hd := (show o.dst = none from by
    unfold gdOk at hrd
    split at hrd
    · split at hrd
      · assumption
      · simp at hrd
    · simp at hrd)
  rw [hd]
  exact Ent.refl _ _
end Go.Fw
