/- A part of the proof: CxP -/
import Derived.Test.YtmohgegpcfkooaaGreatDoorCxO
set_option linter.all false
set_option linter.unusedSectionVars false
set_option linter.unusedVariables false
set_option linter.unusedSimpArgs false
namespace Go.Fw
variable [Gl]
variable {P : Program} {ρ : Option Nat} {n : Nat} {o : Oper} {t : Fr} {h : Hp} {K : V → Hp → Prop}
theorem OpS.append_zeros_nil {sT e xT : TypeId} {a b : Operand} {k by_ j : Nat} {z : List V} {kn kx : IntKind} (hop : IsApp o sT xT a b) (he : ElemOk P sT e k by_ z) (hxT : P.underlying xT = some (.int kn)) (ha : evO t a = some .nilslice) (hb : evO t b = some (.int kx (j : Nat)))
    (hj : 0 < j) (hbd : (2 * (0 + j) + 192) * by_ ≤ 281474976710656)
    (hk : ∀ q N, q ∉ h.ns → 0 + j ≤ N → K (.slice q 0 (0 + j) N) ((q, .cells e ([] ++ zcells z (j * k)) (N * k)) :: h)) : OpS P ρ n o t h K := by
  refine OpS.of_value hop.defer fun F w tm D ho hf => ?_
  have ea := (evO_r (ds := D) hf ha).nilslice_inv
  have eb := (evO_r (ds := D) hf hb).int_inv
  obtain ⟨ov, hov, hor, hoz⟩ : ∃ ov : Array Value, (Builtin.firstCells k 0 (.slice none 0 0)).run P { w with drawn := w.drawn + 1 } = .ok ov { w with drawn := w.drawn + 1 } ∧ VRs F [] ov ∧ ov = #[] := ⟨#[], by simp [Builtin.firstCells], VRs.nil F, rfl⟩
  obtain ⟨i, hi, hib⟩ := tby_info he.bytes
  obtain ⟨zv, hz1, hz2⟩ := tzero_run (P := P) (w := { w with drawn := w.drawn + 1 }) he.zero
  have hnc := nextslicecap_le (0 + j) 0 (by omega)
  have hbp := he.bpos
  have hb' : ¬ (Builtin.nextslicecap (0 + j) 0 * i.bytes > 2 ^ 48) := by
    rw [hib]
    have : Builtin.nextslicecap (0 + j) 0 * by_ ≤ (2 * (0 + j) + 192) * by_ := Nat.mul_le_mul_right _ hnc
    omega
  let N := (Question.appendCap (0 + j) 0 e).cut (w.tape w.drawn (.appendCap (0 + j) 0 e))
  have hN : 0 + j ≤ N := by show 0 + j ≤ (0 + j) + _; omega
  have hjb : j ≤ j * by_ := Nat.le_mul_of_pos_right _ hbp
  have hjb2 : j * by_ ≤ (2 * (0 + j) + 192) * by_ := Nat.mul_le_mul_right _ (by omega)
  have hw : IntKind.i64.wrap (j : Int) = j := wrap64_fit (by omega) (by omega)
  have hzr : VRs F (zcells z (j * k)) (Builtin.zeroCells zv.cells j) := by
    have := zcells_r (F := F) (hz2 F) (j * k) (.inr (by rw [he.zl]; exact he.pos))
    unfold Builtin.zeroCells
    have e1 : zv.cells.size = k := by rw [(hz2 F).1, he.zl]
    rw [e1] at this ⊢
    exact this
  have hzl : (zcells z (j * k)).length = j * k := by simp [zcells]
  have hol : ([] : List V).length = 0 * k := by simp
  refine ⟨.slice w.heap.size 0 (0 + j) N, .slice (some ⟨w.heap.size, 0, none⟩) (0 + j) N, _, F, ({ w with drawn := w.drawn + 1 } : World).alloc (.cells (ov ++ Builtin.zeroCells zv.cells j ++ Builtin.zeroCells zv.cells (N - (0 + j))) e), hop.exec ?_, hk w.heap.size N ho.fresh hN, ?_, by simpa using VR.slice _ _ _ _ hN, ?_⟩
  · rw [ea, eb]
    unfold Builtin.append_
    have hti : (typeInfo e).run P w = .ok i w := by simp [typeInfo, Sem.run_bind, hi]
    have hti' : (typeInfo e).run P { w with drawn := w.drawn + 1 } = .ok i { w with drawn := w.drawn + 1 } := by simp [typeInfo, Sem.run_bind, hi]
    have hch : (choose (.appendCap (0 + j) 0 e)).run P w = .ok N { w with drawn := w.drawn + 1 } := by
      simp [choose, Sem.run, Question.forced, N]
    have hask : ∀ q, (askRoom q).run P { w with drawn := w.drawn + 1 } = .ok () { w with drawn := w.drawn + 1 } := by
      intro q
      unfold askRoom
      split
      · simp [mark, Sem.run]
      · simp
    have hb0 : ¬ (((0 + j : Nat) : Int) > IntKind.i64.max ∧ (True ∨ i.bytes = 0)) := fun hh => by
      have h1 := hh.1
      have h2 : IntKind.i64.max = 9223372036854775807 := by decide
      rw [h2] at h1
      have : 0 + j ≤ (2 * (0 + j) + 192) * by_ := Nat.le_trans (by omega) (Nat.le_mul_of_pos_right _ hbp)
      omega
    have h48 : ¬ ((j : Int) * (i.bytes : Int) > 2 ^ 48) := by
      rw [hib, ← Int.natCast_mul]
      omega
    have hjk : ¬ (j * k = 0) := Nat.mul_ne_zero (by omega) (by have := he.pos; omega)
    have hj0 : ¬ ((j : Int) < 0) := by omega
    simp only [List.getElem?_toArray, List.getElem?_cons_zero, List.getElem?_cons_succ, Sem.run_bind, tund_run (tslice_und he.sl), tsz_run he.sz, Result.andThen_ok, tund_run hxT, Sem.run_pure, if_true, asInt, asIntOf, hw]
    rw [if_neg hj0]
    simp only [Sem.run_bind, Sem.run_pure, Result.andThen_ok, hti]
    rw [if_neg h48]
    simp only [Sem.run_bind, Sem.run_pure, Result.andThen_ok, Int.toNat_natCast]
    rw [if_neg (by omega)]
    simp only [Sem.run_bind, hti, Result.andThen_ok]
    rw [if_neg hb0]
    simp only [Sem.run_bind, hti, Result.andThen_ok, Sem.run_pure]
    rw [if_neg hb']
    simp only [Sem.run_bind, Sem.run_pure, hch, hti', Result.andThen_ok, hask, hov, hz1, Bool.not_true, Bool.false_eq_true, if_false, if_neg hjk, newRow_run]
  · refine (ho.drawn (w.drawn + 1)).push ?_
    have hsz : (ov ++ Builtin.zeroCells zv.cells j ++ Builtin.zeroCells zv.cells (N - (0 + j))).size = N * k := by
      have hzs : zv.cells.size = k := by rw [(hz2 F).1, he.zl]
      simp only [Array.size_append, Builtin.zeroCells, Array.size_map, Array.size_range, hzs, hor.1, hol]
      rw [← Nat.add_mul, ← Nat.add_mul]
      congr 1
      omega
    have := OR.cells (F := F) e ([] ++ zcells z (j * k)) (ov ++ Builtin.zeroCells zv.cells j ++ Builtin.zeroCells zv.cells (N - (0 + j))) (0, 0) (by simp [hor.1, hzr.1]) (FzOk.zero _ _) (fun i v hv => ?_)
    · rwa [hsz] at this
    · have := (vrs_append hor hzr)
      have hlt := (List.getElem?_eq_some_iff.1 hv).1
      obtain ⟨x, hx, r⟩ := vrs_get this hv
      rw [Array.getD_eq_getD_getElem?, Array.getElem?_append_left (by rw [this.1]; exact hlt), hx]
      exact r
  · exact (Trans.drawn F h w (w.drawn + 1)).trans (Trans.push F h { w with drawn := w.drawn + 1 } _ _)
theorem OpS.capN {T e : TypeId} {a : Operand} (hop : o.op = .call { callee := .builtin .cap, args := #[a], argTypes := #[T] }) (hT : tslice P T = some e) (ha : evO t a = some .nilslice) (hk : K (.int .i64 0) h) : OpS P ρ n o t h K := by
  refine OpS.of_value (by simp [hop]) fun F w tm D ho hf => ?_
  have ea := (evO_r (ds := D) hf ha).nilslice_inv
  refine ⟨_, .int .i64 0, _, F, w, ?_, hk, ho, .int _ _, Trans.refl _ _ _⟩
  simp [execOp, hop, resolve, invoke, builtin, Sem.run_bind, Builtin.cap_, tund_run (tslice_und hT), ea, goInt]
section
variable {ρr : Option Nat} {nb : Nat} {Q : LPo} {arr : Array Oper} {os : List Oper} {κ : List Kt} {kn : Kn} {m : Fl} {hf : Hp} {nx : Nat} {dl : List Nat}
theorem Safe.capN {d : Nat} {T e : TypeId} {a : Operand} (hop : o.op = .call { callee := .builtin .cap, args := #[a], argTypes := #[T] }) (hT : tslice P T = some e) (ha : evX m a = some .nilslice) (hr : rdyO arr kn m n o = some d)
    (hs : Safe nb P ρr n Q (.ops arr .no os κ ((d, none) :: kn) ((d, .int .i64 0) :: m) h nx hf dl)) : Safe nb P ρr n Q (.ops arr .no (o :: os) κ kn m h nx hf dl) := by
  refine Safe.op hr (LS.real fun ρ hg hn ht => ?_)
  have ha' := evX_ren (ρ := ρ) ha
  simp only [renV] at ha'
  exact OpS.capN hop hT ha' ⟨ρ, .int .i64 0, h, nx, hf, agr.refl _ _, hg, by rw [renT_pu]; exact Ent.refl _ _, hs⟩
theorem eva_slNh {T e : TypeId} {x a : Operand} {k : Nat} {ik : IntKind} (hop : o.op = .slice T x none (some a) none) (hx : evX m x = some .nilslice) (ha : evX m a = some (.int ik 0)) (hT : tslice P T = some e) (hk : tsz P e = some k) : EvA P m o .nilslice := by
  intro ρ h ht
  have e1 : evB (renT ρ m) none = some none := rfl
  have e2 : evB (renT ρ m) (some a) = some (some 0) := by simp [evB, evX_ren ha, renV]
  simp only [evP, hop, evX_ren hx, renV, e1, e2, evSlice, hT, hk]
  simp
theorem Safe.slNh {d k : Nat} {dr : Dr} {T e : TypeId} {x a : Operand} {ik : IntKind} (hop : o.op = .slice T x none (some a) none) (hx : evX m x = some .nilslice) (ha : evX m a = some (.int ik 0)) (hT : tslice P T = some e) (hk : tsz P e = some k) (hrd : rdyO arr kn m n o = some d)
    (hs : Safe nb P ρr n Q (.ops arr dr.nx os κ ((d, none) :: kn) ((d, .nilslice) :: m) h nx hf dl)) (hck : ckA h .nilslice dr = true := by rfl) : Safe nb P ρr n Q (.ops arr dr (o :: os) κ kn m h nx hf dl) := Safe.valA (eva_slNh hop hx ha hT hk) hrd hs hck
theorem Safe.appZN {d k by_ j : Nat} {sT e xT : TypeId} {a b : Operand} {z : List V} {kn' kx : IntKind} {J : Int} (hop : o.op = .call { callee := .builtin .append, args := #[a, b], argTypes := #[sT, xT] }) (he : elemE P sT = some (e, k, by_, z)) (hxT : P.underlying xT = some (.int kn'))
    (ha : evX m a = some .nilslice) (hb : evX m b = some (.int kx J)) (hJ : J = (j : Nat)) (hj : 0 < j) (hbd : j ≤ 100000000) (hzd : z.all dry = true) (hr : rdyO arr kn m n o = some d)
    (hs : ∀ N', j ≤ N' → Safe nb P ρr n Q (.ops arr .no os κ ((d, none) :: kn) ((d, .slice nx 0 j N') :: m) ((nx, .cells e (zcells z (j * k)) (N' * k)) :: h) (nx + 1) hf dl)) :
    Safe nb P ρr n Q (.ops arr .no (o :: os) κ kn m h nx hf dl) := by
  subst hJ
  have hbd2 := bnd_app (elemE_b he) hbd
  refine Safe.op hr (LS.real fun ρ hg2 hn ht => ?_)
  have ha' := evX_ren (ρ := ρ) ha
  simp only [renV] at ha'
  refine OpS.append_zeros_nil ⟨hop⟩ (elemE_ok he) hxT ha' (evX_ren hb) hj (by simpa using hbd2) fun q N' hq hN' => ?_
  rw [List.nil_append]
  simp only [Nat.zero_add] at hN' ⊢
  have e1 : zcells z (j * k) = renL ρ (zcells z (j * k)) := by rw [dryL_ren ρ (zcells_dry hzd _)]
  have hod := rdyO_dst hr
  have := ent_new (b := q) (mkl := .slice nx 0 j N') (obl := .cells e (zcells z (j * k)) (N' * k)) (d := o.dst) (hf := hf) (m := m) (hg2.fresh nx (Nat.le_refl _)) hg2.keys
  simp only [renV, rex, if_pos, renO, ← e1] at this
  exact ⟨rex ρ nx q, .slice nx 0 j N', (nx, .cells e (zcells z (j * k)) (N' * k)) :: h, nx + 1, hf, agr_rex hg2.base q, by have h2 := hg2.push (nx := nx) q (.cells e (zcells z (j * k)) (N' * k)); exact h2, this, hs N' hN'⟩
theorem Safe.appL {d k kk by_ len mm N : Nat} {sT e xT : TypeId} {a b : Operand} {z cs us cs2 : List V} {x : V} {len2 : Nat} (hop : o.op = .call { callee := .builtin .append, args := #[a, b], argTypes := #[sT, xT] }) (he : elemE P sT = some (e, kk, by_, z)) (hxT : appT P xT = true)
    (ha : evX m a = some (.slice k 0 len N)) (hb : evX m b = some x) (hg : hget h k = some (.cells e cs (N * kk))) (hsrc : evSrc h kk x = some (us, mm)) (hr : rdyO arr kn m n o = some d)
    (hcs2 : cs.take (len * kk) ++ us = cs2) (hl2 : len + mm = len2) (hlen : len * kk ≤ cs.length) (hud : us.all dry = true) (hlf : us.all leafV = true) (hbd : len + mm ≤ 100000000)
    (hs : ∀ N', len2 ≤ N' → Safe nb P ρr n Q (.ops arr .no os κ ((d, none) :: kn) ((d, .slice nx 0 len2 N') :: m) ((nx, .cells e cs2 (N' * kk)) :: hdel h k) (nx + 1) hf dl)) :
    Safe nb P ρr n Q (.ops arr .no (o :: os) κ kn m h nx hf dl) := by
  subst hcs2 hl2
  have hbd2 := bnd_app (elemE_b he) hbd
  refine Safe.op hr (LS.real fun ρ hg2 hn ht => ?_)
  have ha' := evX_ren (ρ := ρ) ha
  obtain ⟨c, hc⟩ := evX_vld ht ha
  have hg' := hget_ren (ρ := ρ) hg hn
  have hdel' := hdel_ren (ρ := ρ) (hf := hf) hg hn
  rw [ky_eq hc] at hg' hdel'
  simp only [renV, hc] at ha'
  refine OpS.append_lin ⟨hop⟩ (elemE_ok he) hxT ha' (evX_ren hb) hg' (by rw [renL_length]; omega) (evSrc_ren (evX_vld ht hb) hsrc hud hn) hlf hbd2 fun q N' hq hN' => ?_
  rw [hdel'] at hq ⊢
  have e1 : (renL ρ cs).take (len * kk) ++ us = renL ρ (cs.take (len * kk) ++ us) := by
    rw [renL_append, renL_take, dryL_ren ρ hud]
  rw [e1]
  have hod := rdyO_dst hr
  have := ent_new (b := q) (mkl := .slice nx 0 (len + mm) N') (obl := .cells e (cs.take (len * kk) ++ us) (N' * kk)) (d := o.dst) (hf := hf) (m := m) (hg2.fresh nx (Nat.le_refl _)) (hg2.del k).keys
  simp only [renV, rex, if_pos, renO] at this
  exact ⟨rex ρ nx q, .slice nx 0 (len + mm) N', (nx, .cells e (cs.take (len * kk) ++ us) (N' * kk)) :: hdel h k, nx + 1, hf, agr_rex hg2.base q, (hg2.del k).push q _, this, hs N' hN'⟩
end
end Go.Fw
