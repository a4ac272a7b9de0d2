/- A part of the proof: CxE -/
import Derived.Test.YtmohgegpcfkooaaGreatDoorCxD
set_option linter.all false
set_option linter.unusedSectionVars false
set_option linter.unusedVariables false
set_option linter.unusedSimpArgs false
namespace Go.Fw
variable [Gl] [Yl]
variable {P : Program} {ρr : Option Nat} {n nb : Nat} {m : Fl} {h hf : Hp} {nx : Nat} {o : Oper} {arr : Array Oper} {K : V → Hp → Nat → Hp → Prop}
theorem evXs_rT {ρ : Nat → Option Nat} {ν : Nat → Nat} {xs : List Operand} {vs : List V} (hv : evXs m xs = some vs) : evOs (rT ρ ν m) xs = some (renL ρ (fixL ν vs)) := evXs_ren (evXs_fix hv)
theorem evXp_rT {ρ : Nat → Option Nat} {ν : Nat → Nat} {xs : List (Nat × Operand)} {vs : List (Nat × V)} (hv : evXp m xs = some vs) : evParts (rT ρ ν m) xs = some ((vs.map fun p => (p.1, fixV ν p.2)).map fun p => (p.1, renV ρ p.2)) := evXp_ren (evXp_fix hv)
theorem vcells_rV {ρ : Nat → Option Nat} {ν : Nat → Nat} (v : V) : vcells (rV ρ ν v) = renL ρ (fixL ν (vcells v)) := by rw [rV, vcells_ren, vcells_fix]
theorem drL {ρ : Nat → Option Nat} {ν : Nat → Nat} {l : List V} (hd : l.all dryV1 = true) : renL ρ (fixL ν l) = l := by rw [dryL1_fix ν hd, dryL1_ren ρ hd]
theorem nf_small {ν : Nat → Nat} {b k : Nat} (hk : Nat.blt k BIG = true) : nf ν b k = k := by
  have h1 := blt_lt hk
  have : Nat.ble BIG k = false := by
    cases hb : Nat.ble BIG k with
    | false => rfl
    | true => have := Nat.le_of_ble_eq_true hb; omega
  simp only [nf, this, cond_false]
theorem cf_small {ν : Nat → Nat} {b k : Nat} (hk : Nat.blt k BIG = true) : cf ν b k = k := by
  have h1 := blt_lt hk
  have : Nat.beq k BIG = false := by
    cases hb : Nat.beq k BIG with
    | false => rfl
    | true => have := Nat.eq_of_beq_eq_true hb; omega
  simp only [cf, this, cond_false]
theorem cf_big (ν : Nat → Nat) (b : Nat) : cf ν b BIG = ν b := by simp only [cf, Nat.beq_refl, cond_true]
theorem nf_big (ν : Nat → Nat) (b k : Nat) : nf ν b (BIG + k) = ν b * k := by
  have : Nat.ble BIG (BIG + k) = true := by rw [Nat.ble_eq]; omega
  simp only [nf, this, cond_true, Nat.add_sub_cancel_left]
theorem LE.obj {T : TypeId} {cs : List V} {k : Nat} {v : V} (mk : Nat → V) (hmk : ∀ ρ ν b, rV (rex ρ nx b) ν v = mk b) (hkb : Nat.blt k BIG = true)
    (hs : ∀ (ρ : Nat → Option Nat) (ν : Nat → Nat) (K : V → Hp → Prop), (rH ρ ν h ++ hf).ns.Nodup → vldT ρ (fixM ν m) → WNew (rH ρ ν h ++ hf) T (renL ρ (fixL ν cs)) k mk K → OpS P ρr n o (rT ρ ν m) (rH ρ ν h ++ hf) K)
    (hk : K v ((nx, .cells T cs k) :: h) (nx + 1) hf) : LE nb P ρr n o m h nx hf K :=
  LE.new (C := fun _ => True) (mk := fun b _ => mk b) (obj := fun ρ ν _ => .cells T (renL ρ (fixL ν cs)) k) (List.Sublist.refl _) (fun ρ ν b N => hmk ρ _ b)
    (fun ρ ν b N hf ho => by simp only [fixO, renO, nf_small hkb, ltO] at ho ⊢; rw [rL_eq (agr_rex (Nat.le_refl _) b) (agn_nex (Nat.le_refl _) N) cs ho])
    (fun ρ ν b N x F hρ hx => by
      simp only [fixO, renO, nf_small hkb]
      cases hx with
      | cells _ _ c fz hl hz hv => exact .cells T _ c fz (by simpa using hl) hz (rL_le (rex_le2 hρ) cs (fun i => c.getD i undef) hv))
    (fun ρ ν K hn ht hK => hs ρ ν K hn ht fun b hb => hK b 0 hb trivial) hk
theorem LE.alloc {T : TypeId} {z : List V} (hop : o.op = .alloc T) (hz : tzero P T = some z) (hkb : Nat.blt z.length BIG = true) (hk : K (.ptr nx 0) ((nx, .cells T z z.length) :: h) (nx + 1) hf) : LE nb P ρr n o m h nx hf K :=
  LE.obj (fun b => .ptr b 0) (fun ρ ν b => by simp [rV, fixV, renV, rex]) hkb (fun ρ ν K hn ht hW => by
    rw [drL (tzero_dry hz)] at hW
    exact OpS.alloc hop hz hW) hk
theorem LE.box {T : TypeId} {x : Operand} {u : V} (hop : o.op = .box T x) (hx : evX m x = some u) (hkb : Nat.blt (vcells u).length BIG = true) (hk : K (.ptr nx 0) ((nx, .cells T (vcells u) (vcells u).length) :: h) (nx + 1) hf) : LE nb P ρr n o m h nx hf K :=
  LE.obj (fun b => .ptr b 0) (fun ρ ν b => by simp [rV, fixV, renV, rex]) hkb (fun ρ ν K hn ht hW => by
    refine OpS.box hop (evX_rT hx) ?_
    rw [vcells_rV]
    simpa using hW) hk
theorem zcells_dry1 {z : List V} (hz : z.all dryV1 = true) (k : Nat) : (zcells z k).all dryV1 = true := by
  unfold zcells
  rw [List.all_map, List.all_eq_true]
  intro i _
  simp only [Function.comp]
  rw [List.getD_eq_getElem?_getD]
  cases hg : z[i % z.length]? with
  | none => rfl
  | some v => exact List.all_eq_true.1 hz v (List.mem_of_getElem? hg)
theorem LE.buildSlice {T e : TypeId} {len k : Nat} {parts : Array (Nat × Operand)} {z : List V} {ps : List (Nat × V)} {cs : List V} (hop : o.op = .buildSlice T len parts) (hT : tslice P T = some e) (hs : tsz P e = some k) (hz : tzero P e = some z)
    (hl : Nat.ble (len * k) 16777216 = true) (hzl : Nat.blt 0 z.length = true) (hp : evXp m parts.toList = some ps) (hfl : evFill (fun i => some (i * k, k)) (zcells z (len * k)) ps = some cs) (hlb : Nat.blt len BIG = true) (hkb : Nat.blt cs.length BIG = true)
    (hk : K (.slice nx 0 len len) ((nx, .cells e cs cs.length) :: h) (nx + 1) hf) : LE nb P ρr n o m h nx hf K :=
  LE.obj (fun b => .slice b 0 len len) (fun ρ ν b => by simp [rV, fixV, renV, rex, cf_small hlb]) hkb (fun ρ ν K hn ht hW => by
    have h1 := evFill_ren (ρ := ρ) (evFill_fix (ν := ν) hfl)
    rw [drL (zcells_dry1 (tzero_dry hz) _)] at h1
    refine OpS.buildSlice hop hT hs hz (Nat.le_of_ble_eq_true hl) (blt_lt hzl) (evXp_rT hp) h1 ?_
    simpa using hW) hk
theorem LE.makeSlice {T e : TypeId} {a b : Operand} {k by_ : Nat} {l c : Int} {k1 k2 : IntKind} {z : List V} (hop : o.op = .makeSlice T a b) (he : elemE P T = some (e, k, by_, z)) (ha : evX m a = some (.int k1 l)) (hb : evX m b = some (.int k2 c)) (hl0 : 0 ≤ l) (hlc : l ≤ c)
    (hc : Nat.ble (c.toNat * by_) 281474976710656 = true) (hcb : Nat.blt c.toNat BIG = true) (hkb : Nat.blt (c.toNat * k) BIG = true) (hk : K (.slice nx 0 l.toNat c.toNat) ((nx, .cells e (zcells z (c.toNat * k)) (c.toNat * k)) :: h) (nx + 1) hf) : LE nb P ρr n o m h nx hf K := by
  obtain ⟨l', rfl⟩ := Int.eq_ofNat_of_zero_le hl0
  obtain ⟨c', rfl⟩ := Int.eq_ofNat_of_zero_le (Int.le_trans hl0 hlc)
  simp only [Int.toNat_natCast] at hc hcb hkb hk
  have hel := elemE_ok he
  exact LE.obj (fun b => .slice b 0 l' c') (fun ρ ν b => by simp [rV, fixV, renV, rex, cf_small hcb]) hkb (fun ρ ν K hn ht hW => by
    rw [drL (zcells_dry1 (tzero_dry hel.zero) _)] at hW
    have h1 := evX_rT (ρ := ρ) (ν := ν) ha
    have h2 := evX_rT (ρ := ρ) (ν := ν) hb
    exact OpS.makeSlice hop hel h1 h2 (by omega) (Nat.le_of_ble_eq_true hc) hW) hk
theorem LE.makeMap {T : TypeId} (hop : o.op = .makeMap T none) (hk : K (.map nx) ((nx, .map []) :: h) (nx + 1) hf) : LE nb P ρr n o m h nx hf K :=
  LE.new (C := fun _ => True) (mk := fun b _ => .map b) (obj := fun ρ ν _ => .map []) (List.Sublist.refl _) (fun ρ ν b N => by simp [rV, fixV, renV, rex]) (fun ρ ν b N _ _ => by simp [fixO, renO]) (fun ρ ν b N x F hρ hx => by simpa [fixO, renO] using hx)
    (fun ρ ν K hn ht hK => OpS.makeMap hop fun b hb => hK b 0 hb trivial) hk
theorem OpS.makeMapR {o : Oper} {t : Fr} {h : Hp} {K : V → Hp → Prop} {T : TypeId} {r : Operand} {k : IntKind} {i : Int} (hop : o.op = .makeMap T (some r)) (hT : (tmap P T).isSome = true) (hr : evO t r = some (.int k i)) (hk : ∀ b, b ∉ h.ns → K (.map b) ((b, .map []) :: h)) : OpS P ρr n o t h K := by
  refine OpS.of_value (by simp [hop]) fun F w tm D ho hf => ?_
  obtain ⟨⟨kT, eT⟩, hT⟩ := Option.isSome_iff_exists.1 hT
  have er := (evO_r (ds := D) hf hr).int_inv
  refine ⟨.map w.heap.size, .map (some w.heap.size), _, F, w.alloc (.map #[] 0), ?_, hk w.heap.size ho.fresh, ho.push (.map [] #[] 0 rfl (fun i e x h => by simp at h) (fun i x h => by simp at h) (fun i j x y h => by simp at h)), .map _, Trans.push _ _ _ _ _⟩
  simp [execOp, hop, Instr.makeMap, Sem.run_bind, newObj, Sem.run, tund_run (tmap_und hT), er, asInt, asIntOf]
theorem LE.makeMapR {T : TypeId} {r : Operand} {k : IntKind} {i : Int} (hop : o.op = .makeMap T (some r)) (hT : (tmap P T).isSome = true) (hr : evX m r = some (.int k i)) (hk : K (.map nx) ((nx, .map []) :: h) (nx + 1) hf) : LE nb P ρr n o m h nx hf K :=
  LE.new (C := fun _ => True) (mk := fun b _ => .map b) (obj := fun ρ ν _ => .map []) (List.Sublist.refl _) (fun ρ ν b N => by simp [rV, fixV, renV, rex]) (fun ρ ν b N _ _ => by simp [fixO, renO]) (fun ρ ν b N x F hρ hx => by simpa [fixO, renO] using hx)
    (fun ρ ν K hn ht hK => OpS.makeMapR hop hT (evX_rT hr) fun b hb => hK b 0 hb trivial) hk
theorem leaf_rV {ρ : Nat → Option Nat} {ν : Nat → Nat} : ∀ {l : List V}, l.all leafV = true → (renL ρ (fixL ν l)).all leafV = true
  | [], _ => rfl
  | v :: r, h => by
    simp only [List.all_cons, Bool.and_eq_true] at h
    simp only [fixL, renL, List.all_cons, leaf_rV h.2, Bool.and_true]
    have h1 := h.1
    cases v with
    | clo f cs => cases hb : isY cs <;> simp [fixV, hb, renV, leafV]
    | ptr b o => simp only [fixV, renV]; cases ρ b <;> rfl
    | slice b o l k => simp only [fixV, renV]; cases ρ b <;> rfl
    | map b => simp only [fixV, renV]; cases ρ b <;> rfl
    | _ => simp_all [fixV, renV, leafV]
theorem LE.put {k : Nat} {ob ob' : AObj} (hg : hget h k = some ob) (hd : o.dst = none)
    (hs : ∀ (ρ : Nat → Option Nat) (ν : Nat → Nat) (c : Nat) (K : V → Hp → Prop), ρ k = some c → (rH ρ ν h ++ hf).ns.Nodup → vldT ρ (fixM ν m) → hget (rH ρ ν h ++ hf) c = some (renO ρ (fixO ν k ob)) → (K (.tup []) (hset (rH ρ ν h ++ hf) c (renO ρ (fixO ν k ob')))) → OpS P ρr n o (rT ρ ν m) (rH ρ ν h ++ hf) K)
    (hk : K (.tup []) (hset h k ob') nx hf) : LE nb P ρr n o m h nx hf K :=
  LE.real fun ρ ν hgd hn ht => by
    obtain ⟨c, hc⟩ := Option.isSome_iff_exists.1 (hgd.keys _ (hget_mem hg))
    have h1 := hget_ren (ρ := ρ) (hf := hf) (h := fixH ν h) (k := k) (o := fixO ν k ob) (by rw [hget_fix, hg]; rfl) hn
    have h2 := hset_ren (ρ := ρ) (hf := hf) (h := fixH ν h) (k := k) (o' := fixO ν k ob') (o := fixO ν k ob) (by rw [hget_fix, hg]; rfl) hn
    rw [ky_eq hc] at h1 h2
    rw [hset_fix] at h2
    have e3 : hset (rH ρ ν h ++ hf) c (renO ρ (fixO ν k ob')) = rH ρ ν (hset h k ob') ++ hf := h2
    refine hs ρ ν c _ hc hn ht h1 ?_
    refine ⟨ρ, ν, .tup [], hset h k ob', nx, hf, agr.refl _ _, agn.refl _ _, hset_keys hgd, ?_, ⟨rfl, agr.refl _ _, agn.refl _ _, fun _ => e3⟩, hk⟩
    rw [hd, e3]
    exact Ent.refl _ _
theorem LE.store {T T' : TypeId} {a x : Operand} {k off nn : Nat} {cs : List V} {v : V} (hop : o.op = .store T a x) (ha : evX m a = some (.ptr k off)) (hx : evX m x = some v) (hg : hget h k = some (.cells T' cs nn)) (hd : o.dst = none)
    (hsz : tsz P T = some (vcells v).length) (hl : Nat.ble (off + (vcells v).length) cs.length = true) (hlf : (vcells v).all leafV = true) (hk : K (.tup []) (hset h k (.cells T' (stL cs off (vcells v)) nn)) nx hf) : LE nb P ρr n o m h nx hf K :=
  LE.put hg hd (fun ρ ν c K hc hn ht h1 hK => by
    have ha' := evX_rT (ρ := ρ) (ν := ν) ha
    simp only [rV, fixV, renV, hc] at ha'
    refine OpS.store hop ha' (evX_rT hx) ?_
    simp only [WStore, h1, fixO, renO, vcells_rV, renL_length, fixL_length]
    refine ⟨hsz, Nat.le_of_ble_eq_true hl, leaf_rV hlf, ?_⟩
    have := hK
    simp only [fixO, renO] at this
    rw [stL_ren, stL_fix]
    exact this) hk
theorem keyq_rV {ρ : Nat → Option Nat} {ν : Nat → Nat} {k k' : V} {b : Bool} (h : keyq k k' = some b) : keyq (rV ρ ν k) (rV ρ ν k') = some b := by
  unfold keyq at h
  split at h
  · exact h
  · exact h
  · simp at h
def rE (ρ : Nat → Option Nat) (ν : Nat → Nat) (es : List (V × V)) : List (V × V) := (es.map fun e => (fixV ν e.1, fixV ν e.2)).map fun e => (renV ρ e.1, renV ρ e.2)
theorem mix_rV {ρ : Nat → Option Nat} {ν : Nat → Nat} {k : V} : ∀ {es : List (V × V)} {r : Option Nat}, mix k es = some r → mix (rV ρ ν k) (rE ρ ν es) = some r
  | [], r, h => h
  | e :: es, r, h => by
    simp only [mix] at h
    simp only [rE, List.map_cons, mix]
    split at h
    · rename_i hq
      have := keyq_rV (ρ := ρ) (ν := ν) hq
      simp only [rV] at this
      simp only [rV, this]; exact h
    · rename_i hq
      have h1 := keyq_rV (ρ := ρ) (ν := ν) hq
      simp only [rV] at h1
      obtain ⟨r0, hr0, rfl⟩ := Option.map_eq_some_iff.1 h
      have := mix_rV (ρ := ρ) (ν := ν) hr0
      simp only [rV, rE] at this
      simp only [rV, h1, this, Option.map_some]
    · simp at h
theorem rE_get {ρ : Nat → Option Nat} {ν : Nat → Nat} (es : List (V × V)) (i : Nat) : (rE ρ ν es)[i]? = (es[i]?).map fun e => (rV ρ ν e.1, rV ρ ν e.2) := by simp [rE, rV, List.getElem?_map, Function.comp_def]
theorem mput_rV {ρ : Nat → Option Nat} {ν : Nat → Nat} {k v : V} {es es' : List (V × V)} (h : mput k v es = some es') : mput (rV ρ ν k) (rV ρ ν v) (rE ρ ν es) = some (rE ρ ν es') := by
  unfold mput at h ⊢
  obtain ⟨r, hr, rfl⟩ := Option.map_eq_some_iff.1 h
  rw [mix_rV hr]
  cases r with
  | none => simp [rE, rV]
  | some i => simp [rE, rV, List.map_set]
theorem tkey_rV {ρ : Nat → Option Nat} {ν : Nat → Nat} {T : TypeId} {k : V} (h : tkey P T k = true) : tkey P T (rV ρ ν k) = true := by
  have h0 := h
  unfold tkey at h
  split at h
  · exact h0
  · exact h0
  · simp at h
theorem tzv_dry {T : TypeId} {z : V} (h : tzv P T = some z) : dry z = true := by
  unfold tzv at h
  obtain ⟨x, hx, h⟩ := Option.bind_eq_some_iff.1 h
  exact ofConst_dry h
omit [Yl] in
def lkV (z : V) (ok : Bool) (es : List (V × V)) (r : Option Nat) : V := match ok with
  | true => .tup [(r.bind fun j => (es[j]?).map (·.2)).getD z, .bool r.isSome]
  | false => (r.bind fun j => (es[j]?).map (·.2)).getD z
theorem lkV_rV {ρ : Nat → Option Nat} {ν : Nat → Nat} {z : V} (hz : dry z = true) {ok : Bool} {es : List (V × V)} {r : Option Nat} :
    (if ok = true then V.tup [(r.bind fun j => ((rE ρ ν es)[j]?).map (·.2)).getD z, .bool r.isSome] else (r.bind fun j => ((rE ρ ν es)[j]?).map (·.2)).getD z) = rV ρ ν (lkV z ok es r) := by
  have key : (r.bind fun j => ((rE ρ ν es)[j]?).map (·.2)).getD z = rV ρ ν ((r.bind fun j => (es[j]?).map (·.2)).getD z) := by
    cases r with
    | none => simp only [Option.bind_none, Option.getD_none]; rw [rV, dry_fix ν hz, dry_ren ρ hz]
    | some j =>
      simp only [Option.bind_some, rE_get, Option.map_map]
      cases es[j]? with
      | none => simp only [Option.map_none, Option.getD_none]; rw [rV, dry_fix ν hz, dry_ren ρ hz]
      | some e => rfl
  cases ok with
  | true => rw [if_pos rfl, key]; rfl
  | false => rw [if_neg (by simp), key]; rfl
theorem LE.lookup {T kT eT : TypeId} {x i : Operand} {ok : Bool} {b : Nat} {es : List (V × V)} {k z : V} {r : Option Nat} (hop : o.op = .lookup T x i ok) (hT : tmap P T = some (kT, eT)) (hz : tzv P eT = some z) (hx : evX m x = some (.map b)) (hi : evX m i = some k) (hk : tkey P kT k = true)
    (hg : hget h b = some (.map es)) (hr : mix k es = some r) (hK : K (lkV z ok es r) h nx hf) : LE nb P ρr n o m h nx hf K :=
  LE.real fun ρ ν hgd hn ht => by
    obtain ⟨c, hc⟩ := Option.isSome_iff_exists.1 (hgd.keys _ (hget_mem hg))
    have h1 := hget_ren (ρ := ρ) (hf := hf) (h := fixH ν h) (k := b) (o := fixO ν b (.map es)) (by rw [hget_fix, hg]; rfl) hn
    rw [ky_eq hc] at h1
    have hx' := evX_rT (ρ := ρ) (ν := ν) hx
    simp only [rV, fixV, renV, hc] at hx'
    refine OpS.lookup hop hT hz hx' (evX_rT hi) (tkey_rV hk) h1 (mix_rV hr) ?_
    have := lkV_rV (ρ := ρ) (ν := ν) (tzv_dry hz) (ok := ok) (es := es) (r := r)
    simp only [rE] at this
    refine ⟨ρ, ν, lkV z ok es r, h, nx, hf, agr.refl _ _, agn.refl _ _, hgd, ?_, ⟨this, agr.refl _ _, agn.refl _ _, fun _ => rfl⟩, hK⟩
    rw [← rT_pu, this]
    exact Ent.refl _ _
theorem LE.mapUpdate {T kT eT : TypeId} {mm i x : Operand} {b : Nat} {es es' : List (V × V)} {k v : V} (hop : o.op = .mapUpdate T mm i x ∨ o.op = .insert T mm i x) (hT : tmap P T = some (kT, eT)) (hm : evX m mm = some (.map b)) (hi : evX m i = some k) (hx : evX m x = some v) (hk : tkey P kT k = true) (hd : o.dst = none)
    (hg : hget h b = some (.map es)) (hr : mput k v es = some es') (hK : K (.tup []) (hset h b (.map es')) nx hf) : LE nb P ρr n o m h nx hf K :=
  LE.put hg hd (fun ρ ν c K hc hn ht h1 hK => by
    have hm' := evX_rT (ρ := ρ) (ν := ν) hm
    simp only [rV, fixV, renV, hc] at hm'
    exact OpS.mapUpdate hop hT hm' (evX_rT hi) (evX_rT hx) (tkey_rV hk) h1 (mput_rV (ρ := ρ) (ν := ν) hr) hK) hK
end Go.Fw
