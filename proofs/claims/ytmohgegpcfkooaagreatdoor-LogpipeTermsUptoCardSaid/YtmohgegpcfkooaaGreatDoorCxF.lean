/- A part of the proof: CxF -/
import Derived.Test.YtmohgegpcfkooaaGreatDoorCxE
set_option linter.all false
set_option linter.unusedSectionVars false
set_option linter.unusedVariables false
set_option linter.unusedSimpArgs false
namespace Go.Fw
variable [Gl] [Yl]
variable {P : Program} {ρr : Option Nat} {n nb : Nat} {m : Fl} {h hf : Hp} {nx : Nat} {o : Oper} {arr : Array Oper} {K : V → Hp → Nat → Hp → Prop}
theorem LE.row {T : TypeId} {cs : List V} {l k : Nat} {h1 : Hp} (hd1 : h1.Sublist h) (hnx : Nat.beq nx BIG = false)
    (hs : ∀ (ρ : Nat → Option Nat) (ν : Nat → Nat) (K : V → Hp → Prop), good nb ρ nx h → (rH ρ ν h ++ hf).ns.Nodup → vldT ρ (fixM ν m) → (∀ b N, b ∉ (rH ρ ν h1 ++ hf).ns → l ≤ N → K (.slice b 0 l N) ((b, .cells T (renL ρ (fixL ν cs)) (N * k)) :: (rH ρ ν h1 ++ hf))) → OpS P ρr n o (rT ρ ν m) (rH ρ ν h ++ hf) K)
    (hk : K (.slice nx 0 l BIG) ((nx, .cells T cs (BIG + k)) :: h1) (nx + 1) hf) : LE nb P ρr n o m h nx hf K := by
  have hne : nx ≠ BIG := fun e => by rw [e, Nat.beq_refl] at hnx; cases hnx
  refine LE.real fun ρ ν hg hn ht => hs ρ ν _ hg hn ht fun b N hb hN => ?_
  have hr : rle2 ρ ν (rex ρ nx b) (nex ν nx N) := rex_le2 (hg.fresh nx (Nat.le_refl _))
  have hg1 : good nb ρ nx h1 := ⟨hg.fresh, fun p hp => hg.keys p (hd1.subset hp), hg.base⟩
  have ev : rV (rex ρ nx b) (nex ν nx N) (.slice nx 0 l BIG) = .slice b 0 l N := by simp [rV, fixV, cf_big, nex_self hne, renV, rex]
  refine ⟨rex ρ nx b, nex ν nx N, .slice nx 0 l BIG, (nx, .cells T cs (BIG + k)) :: h1, nx + 1, hf, agr_rex hg.base b, agn_nex hg.base N, hg1.push b _, ?_, ⟨ev.symm, agr_rex (Nat.le_refl _) b, agn_nex (Nat.le_refl _) N, fun hc => ?_⟩, hk⟩
  rotate_left
  · simp only [ltC] at hc
    split at hc
    · rename_i ho
      simp only [ltO] at ho
      have e0 : ky (rex ρ nx b) nx = b := by simp [ky, rex]
      rw [rH_cons, e0, rH_eq2 (agr_rex (Nat.le_refl _) b) (agn_nex (Nat.le_refl _) N) hg.fresh hg1.keys hc]
      simp only [fixO, renO, nf_big, nex_self hne, rL_eq (agr_rex (Nat.le_refl _) b) (agn_nex (Nat.le_refl _) N) cs ho]
      rfl
    · simp at hc
  rw [← rT_pu, ev]
  have e0 : ky (rex ρ nx b) nx = b := by simp [ky, rex]
  rw [rH_cons, List.cons_append, e0]
  refine Ent.trans (ent_le3 (pre := [(b, .cells T (renL ρ (fixL ν cs)) (N * k))]) hr hg1.keys) ?_
  intro F w kk tm ho hfr
  refine ⟨F, ⟨ho.nodup, fun b' o' hm => ?_, ho.off, ho.frz, ho.gl⟩, hfr, ⟨FLe.refl F, Nat.le_refl _, fun _ _ _ => rfl, fun b hb => .inl hb, fun _ hn => absurd rfl hn, rfl, rfl, rfl, Nat.le_refl _⟩⟩
  rcases List.mem_cons.1 hm with e | hm
  · simp only [Prod.mk.injEq] at e
    obtain ⟨rfl, rfl⟩ := e
    obtain ⟨x, hx, r⟩ := ho.own b' (.cells T (renL ρ (fixL ν cs)) (N * k)) (by simp)
    refine ⟨x, hx, ?_⟩
    simp only [fixO, renO, nf_big, nex_self hne]
    generalize N * k = M at r
    cases r with
    | cells _ _ c fz hl hz hv => exact .cells T _ c fz (by simpa using hl) hz (rL_le hr cs (fun i => c.getD i undef) hv)
  · exact ho.own b' o' (by simp only [List.singleton_append]; exact List.mem_cons_of_mem _ hm)
omit [Yl] in
def dfS (x : V) (us : List V) : Bool := match x with
  | .fslice _ _ => us.all dry
  | _ => true
theorem dfS_ok {x : V} {us : List V} (h : dfS x us = true) : ∀ cs l, x = .fslice cs l → us.all dry = true := fun cs l e => by subst e; exact h
theorem LE.appNil {sT e xT : TypeId} {a b : Operand} {k by_ mm : Nat} {z us : List V} {x : V} (hop : o.op = .call { callee := .builtin .append, args := #[a, b], argTypes := #[sT, xT] }) (he : elemE P sT = some (e, k, by_, z)) (hxT : appT P xT = true)
    (ha : evX m a = some .nilslice) (hb : evX m b = some x) (hs : evSrc h k x = some (us, mm)) (hdf : dfS x us = true) (hbd : Nat.ble ((2 * mm + 192) * by_) 281474976710656 = true) (hm : Nat.blt 0 mm = true) (hnx : Nat.beq nx BIG = false)
    (hk : K (.slice nx 0 mm BIG) ((nx, .cells e us (BIG + k)) :: h) (nx + 1) hf) : LE nb P ρr n o m h nx hf K :=
  LE.row (List.Sublist.refl _) hnx (fun ρ ν K hg hn ht hK => by
    have ha' := evX_rT (ρ := ρ) (ν := ν) ha
    refine OpS.append_nil ⟨hop⟩ (elemE_ok he) hxT ha' (evX_rT hb) (evSrc_rV (evX_vldF ht hb) hs (dfS_ok hdf) hn) (Nat.le_of_ble_eq_true hbd) (fun h0 => absurd (blt_lt hm) (by omega)) (fun h0 q N hq hN => hK q N hq hN)) hk
theorem LE.appNil0 {sT e xT : TypeId} {a b : Operand} {k by_ : Nat} {z us : List V} {x : V} (hop : o.op = .call { callee := .builtin .append, args := #[a, b], argTypes := #[sT, xT] }) (he : elemE P sT = some (e, k, by_, z)) (hxT : appT P xT = true)
    (ha : evX m a = some .nilslice) (hb : evX m b = some x) (hs : evSrc h k x = some (us, 0)) (hdf : dfS x us = true) (hbd : Nat.ble ((2 * 0 + 192) * by_) 281474976710656 = true)
    (hk : K .nilslice h nx hf) : LE nb P ρr n o m h nx hf K :=
  LE.real fun ρ ν hg hn ht => by
    have ha' := evX_rT (ρ := ρ) (ν := ν) ha
    refine OpS.append_nil ⟨hop⟩ (elemE_ok he) hxT ha' (evX_rT hb) (evSrc_rV (evX_vldF ht hb) hs (dfS_ok hdf) hn) (Nat.le_of_ble_eq_true hbd) (fun _ => ?_) (fun h0 => absurd h0 (by omega))
    exact ⟨ρ, ν, .nilslice, h, nx, hf, agr.refl _ _, agn.refl _ _, hg, by rw [← rT_pu]; exact Ent.refl _ _, ⟨rfl, agr.refl _ _, agn.refl _ _, fun _ => rfl⟩, hk⟩
theorem rL_app {ρ : Nat → Option Nat} {ν : Nat → Nat} (a b : List V) : renL ρ (fixL ν (a ++ b)) = renL ρ (fixL ν a) ++ renL ρ (fixL ν b) := by rw [fixL_append, renL_append]
theorem LE.appFull {sT e xT : TypeId} {a b : Operand} {k by_ mm len p o' nn : Nat} {T : TypeId} {z us cs : List V} {x : V} (hop : o.op = .call { callee := .builtin .append, args := #[a, b], argTypes := #[sT, xT] }) (he : elemE P sT = some (e, k, by_, z)) (hxT : appT P xT = true)
    (ha : evX m a = some (.slice p o' len len)) (hlb : Nat.blt len BIG = true) (hb : evX m b = some x) (hg : hget h p = some (.cells T cs nn)) (hl : Nat.ble (o' + len * k) cs.length = true) (hs : evSrc h k x = some (us, mm)) (hdf : dfS x us = true) (hbd : Nat.ble ((2 * (len + mm) + 192) * by_) 281474976710656 = true) (hm : Nat.blt 0 mm = true) (hnx : Nat.beq nx BIG = false)
    (hk : K (.slice nx 0 (len + mm) BIG) ((nx, .cells e ((cs.drop o').take (len * k) ++ us) (BIG + k)) :: h) (nx + 1) hf) : LE nb P ρr n o m h nx hf K :=
  LE.row (List.Sublist.refl _) hnx (fun ρ ν K hgd hn ht hK => by
    obtain ⟨c, hc⟩ := Option.isSome_iff_exists.1 (hgd.keys _ (hget_mem hg))
    have h1 := hget_ren (ρ := ρ) (hf := hf) (h := fixH ν h) (k := p) (o := fixO ν p (.cells T cs nn)) (by rw [hget_fix, hg]; rfl) hn
    rw [ky_eq hc] at h1
    have ha' := evX_rT (ρ := ρ) (ν := ν) ha
    simp only [rV, fixV, renV, hc, cf_small hlb] at ha'
    refine OpS.append_full ⟨hop⟩ (elemE_ok he) hxT ha' (evX_rT hb) h1 (by simpa using Nat.le_of_ble_eq_true hl) (evSrc_rV (evX_vldF ht hb) hs (dfS_ok hdf) hn) (blt_lt hm) (Nat.le_of_ble_eq_true hbd) (fun q N hq hN => ?_)
    have := hK q N hq hN
    rw [rL_app, ← fixL_take, ← fixL_drop, ← renL_take, ← renL_drop] at this
    exact this) hk
theorem LE.appLin {sT e xT : TypeId} {a b : Operand} {k by_ mm len p nn cap : Nat} {z us cs : List V} {x : V} (hop : o.op = .call { callee := .builtin .append, args := #[a, b], argTypes := #[sT, xT] }) (he : elemE P sT = some (e, k, by_, z)) (hxT : appT P xT = true)
    (ha : evX m a = some (.slice p 0 len cap)) (hcap : (Nat.beq cap BIG && Nat.beq nn (BIG + k) || Nat.blt cap BIG && Nat.blt nn BIG && Nat.beq nn (cap * k)) = true) (hb : evX m b = some x) (hg : hget h p = some (.cells e cs nn)) (hl : Nat.ble (len * k) cs.length = true) (hs : evSrc h k x = some (us, mm)) (hdf : dfS x us = true) (hlf : us.all leafV = true) (hbd : Nat.ble ((2 * (len + mm) + 192) * by_) 281474976710656 = true) (hnx : Nat.beq nx BIG = false)
    (hk : K (.slice nx 0 (len + mm) BIG) ((nx, .cells e (cs.take (len * k) ++ us) (BIG + k)) :: hdel h p) (nx + 1) hf) : LE nb P ρr n o m h nx hf K :=
  LE.row (hdel_sub h p) hnx (fun ρ ν K hgd hn ht hK => by
    obtain ⟨c, hc⟩ := Option.isSome_iff_exists.1 (hgd.keys _ (hget_mem hg))
    have hgf : hget (fixH ν h) p = some (fixO ν p (.cells e cs nn)) := by rw [hget_fix, hg]; rfl
    have h1 := hget_ren (ρ := ρ) (hf := hf) hgf hn
    have h2 := hdel_ren (ρ := ρ) (hf := hf) hgf hn
    rw [ky_eq hc] at h1 h2
    rw [hdel_fix] at h2
    have ha' := evX_rT (ρ := ρ) (ν := ν) ha
    simp only [rV, fixV, renV, hc] at ha'
    have hnn : nf ν p nn = cf ν p cap * k := by
      simp only [Bool.or_eq_true, Bool.and_eq_true] at hcap
      rcases hcap with ⟨c1, c2⟩ | ⟨⟨c1, c2⟩, c3⟩
      · rw [Nat.eq_of_beq_eq_true c1, Nat.eq_of_beq_eq_true c2, cf_big, nf_big]
      · rw [cf_small c1, nf_small c2, Nat.eq_of_beq_eq_true c3]
    simp only [fixO, renO, hnn] at h1
    have h2' : hdel (rH ρ ν h ++ hf) c = rH ρ ν (hdel h p) ++ hf := h2
    refine OpS.append_lin ⟨hop⟩ (elemE_ok he) hxT ha' (evX_rT hb) h1 (by simpa using Nat.le_of_ble_eq_true hl) (evSrc_rV (evX_vldF ht hb) hs (dfS_ok hdf) hn) (leaf_rV hlf) (Nat.le_of_ble_eq_true hbd) (fun q N hq hN => ?_)
    rw [h2'] at hq ⊢
    have := hK q N hq hN
    rw [rL_app, ← fixL_take, ← renL_take] at this
    exact this) hk
theorem LE.toBytes {sT dT e : TypeId} {a : Operand} {s : List UInt8} (hop : o.op = .convert sT dT a) (hs : tisstr P sT = true) (hd : tslice P dT = some e) (he : tint P e = some .u8) (ha : evX m a = some (.str s)) (h5 : Nat.beq e 5 = true) (hnx : Nat.beq nx BIG = false)
    (hk : K (.slice nx 0 s.length BIG) ((nx, .cells e (byteCells s) (BIG + 1)) :: h) (nx + 1) hf) : LE nb P ρr n o m h nx hf K :=
  LE.row (List.Sublist.refl _) hnx (fun ρ ν K hgd hn ht hK => by
    have ha' := evX_rT (ρ := ρ) (ν := ν) ha
    refine OpS.toBytes hop hs hd he ha' (fun q N hq hN => ?_) (Nat.eq_of_beq_eq_true h5)
    have := hK q N hq hN
    have hd : (byteCells s).all dryV1 = true := by simp [byteCells, dryV1]
    rw [drL hd, Nat.mul_one] at this
    exact this) hk
theorem bytesOf_rV {ρ : Nat → Option Nat} {ν : Nat → Nat} : ∀ {l : List V} {bs : List UInt8}, bytesOf l = some bs → bytesOf (renL ρ (fixL ν l)) = some bs
  | [], bs, h => h
  | v :: r, bs, h => by
    unfold bytesOf at h
    split at h
    · rename_i e; cases e
    · rename_i k rr e
      simp only [List.cons.injEq] at e
      obtain ⟨rfl, rfl⟩ := e
      obtain ⟨t, ht, rfl⟩ := Option.map_eq_some_iff.1 h
      simp only [fixL, fixV, renL, renV, bytesOf, bytesOf_rV ht, Option.map_some]
    · simp at h
theorem LE.ofBytes {sT dT e : TypeId} {a : Operand} {b off len cap nn : Nat} {T : TypeId} {cs : List V} {s : List UInt8} (hop : o.op = .convert sT dT a) (hd : tslice P sT = some e) (he : tint P e = some .u8) (hs : tisstr P dT = true) (ha : evX m a = some (.slice b off len cap)) (hg : hget h b = some (.cells T cs nn))
    (hl : Nat.ble (off + len) cs.length = true) (hb : bytesOf ((cs.drop off).take len) = some s) (hk : K (.str s) h nx hf) : LE nb P ρr n o m h nx hf K := by
  refine LE.real fun ρ ν hgd hn ht => ?_
  obtain ⟨c, hc⟩ := Option.isSome_iff_exists.1 (hgd.keys _ (hget_mem hg))
  have h1 := hget_ren (ρ := ρ) (hf := hf) (h := fixH ν h) (k := b) (o := fixO ν b (.cells T cs nn)) (by rw [hget_fix, hg]; rfl) hn
  rw [ky_eq hc] at h1
  have ha' := evX_rT (ρ := ρ) (ν := ν) ha
  simp only [rV, fixV, renV, hc] at ha'
  refine OpS.of_evP (v := .str s) ?_ ⟨ρ, ν, .str s, h, nx, hf, agr.refl _ _, agn.refl _ _, hgd, by rw [← rT_pu]; exact Ent.refl _ _, ⟨rfl, agr.refl _ _, agn.refl _ _, fun _ => rfl⟩, hk⟩
  have h1' : hget (rH ρ ν h ++ hf) c = some (.cells T (renL ρ (fixL ν cs)) (nf ν b nn)) := h1
  simp only [evP, hop, ha', Option.bind_some, evConv, hd, if_pos (And.intro he hs), h1', renL_length, fixL_length]
  rw [if_pos (Nat.le_of_ble_eq_true hl), renL_drop, renL_take, fixL_drop, fixL_take, bytesOf_rV hb]
  rfl
end Go.Fw
