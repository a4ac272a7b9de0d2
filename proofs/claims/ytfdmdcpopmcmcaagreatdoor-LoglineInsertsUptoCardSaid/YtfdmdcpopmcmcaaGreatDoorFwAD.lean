/- A part of the proof: FwAD -/
import Derived.Test.YtfdmdcpopmcmcaaGreatDoorFwAC
import Derived.Lib.Overlaps
import Derived.Laws.Externs
set_option linter.all false
set_option linter.unusedSectionVars false
set_option linter.unusedVariables false
set_option linter.unusedSimpArgs false
section
namespace Go.Fw
variable [Gl]
variable {P : Program} {ρ : Option Nat} {n : Nat} {o : Oper} {t : Fr} {h : Hp} {K : V → Hp → Prop}
/-! ### cap; append of zeros; copy behind what is known; two slices apart -/
theorem OpS.cap {T e : TypeId} {a : Operand} {b o' len c : Nat} (hop : o.op = .call { callee := .builtin .cap, args := #[a], argTypes := #[T] }) (hT : tslice P T = some e) (ha : evO t a = some (.slice b o' len c)) (hk : K (.int .i64 c) h) : OpS P ρ n o t h K := by
  refine OpS.of_value (by simp [hop]) fun F w tm D ho hf => ?_
  have ea := (evO_r (ds := D) hf ha).slice_inv
  refine ⟨_, .int .i64 c, _, F, w, ?_, hk, ho, .int _ _, Trans.refl _ _ _⟩
  simp [execOp, hop, resolve, invoke, builtin, Sem.run_bind, Builtin.cap_, tund_run (tslice_und hT), ea, goInt]
theorem OpS.append_zeros {sT e xT : TypeId} {a b : Operand} {k by_ len cap j p o' nn : Nat} {T : TypeId} {z cs : List V} {kn kx : IntKind} (hop : IsApp o sT xT a b) (he : ElemOk P sT e k by_ z) (hxT : P.underlying xT = some (.int kn)) (ha : evO t a = some (.slice p o' len cap)) (hb : evO t b = some (.int kx (j : Nat)))
    (hg : hget h p = some (.cells T cs nn)) (hl : o' + len * k ≤ cs.length) (hcap : cap < len + j) (hj : 0 < j) (hbd : (2 * (len + j) + 192) * by_ ≤ 281474976710656)
    (hk : ∀ q N, q ∉ h.ns → len + j ≤ N → K (.slice q 0 (len + j) N) ((q, .cells e ((cs.drop o').take (len * k) ++ zcells z (j * k)) (N * k)) :: h)) : OpS P ρ n o t h K := by
  refine OpS.of_value hop.defer fun F w tm D ho hf => ?_
  have ea := (evO_r (ds := D) hf ha).slice_inv
  have eb := (evO_r (ds := D) hf hb).int_inv
  obtain ⟨ov, hov, hor⟩ := own_first (P := P) (cap := cap) ho hg hl (w.drawn + 1)
  obtain ⟨i, hi, hib⟩ := tby_info he.bytes
  obtain ⟨zv, hz1, hz2⟩ := tzero_run (P := P) (w := { w with drawn := w.drawn + 1 }) he.zero
  have hnc := nextslicecap_le (len + j) cap hcap
  have hbp := he.bpos
  have hb' : ¬ (Builtin.nextslicecap (len + j) cap * i.bytes > 2 ^ 48) := by
    rw [hib]
    have : Builtin.nextslicecap (len + j) cap * by_ ≤ (2 * (len + j) + 192) * by_ := Nat.mul_le_mul_right _ hnc
    omega
  let N := (Question.appendCap (len + j) cap e).cut (w.tape w.drawn (.appendCap (len + j) cap e))
  have hN : len + j ≤ N := by show len + j ≤ (len + j) + _; omega
  have hjb : j ≤ j * by_ := Nat.le_mul_of_pos_right _ hbp
  have hjb2 : j * by_ ≤ (2 * (len + j) + 192) * by_ := Nat.mul_le_mul_right _ (by omega)
  have hw : IntKind.i64.wrap (j : Int) = j := wrap64_fit (by omega) (by omega)
  have hzr : VRs F (zcells z (j * k)) (Builtin.zeroCells zv.cells j) := by
    have := zcells_r (F := F) (hz2 F) (j * k) (.inr (by rw [he.zl]; exact he.pos))
    unfold Builtin.zeroCells
    have e1 : zv.cells.size = k := by rw [(hz2 F).1, he.zl]
    rw [e1] at this ⊢
    exact this
  have hzl : (zcells z (j * k)).length = j * k := by simp [zcells]
  have hol : ((cs.drop o').take (len * k)).length = len * k := by simp; omega
  refine ⟨.slice w.heap.size 0 (len + j) N, .slice (some ⟨w.heap.size, 0, none⟩) (len + j) N, _, F, ({ w with drawn := w.drawn + 1 } : World).alloc (.cells (ov ++ Builtin.zeroCells zv.cells j ++ Builtin.zeroCells zv.cells (N - (len + j))) e), hop.exec ?_, hk w.heap.size N ho.fresh hN, ?_, by simpa using VR.slice _ _ _ _ hN, ?_⟩
  · rw [ea, eb]
    unfold Builtin.append_
    have hti : (typeInfo e).run P w = .ok i w := by simp [typeInfo, Sem.run_bind, hi]
    have hti' : (typeInfo e).run P { w with drawn := w.drawn + 1 } = .ok i { w with drawn := w.drawn + 1 } := by simp [typeInfo, Sem.run_bind, hi]
    have hch : (choose (.appendCap (len + j) cap e)).run P w = .ok N { w with drawn := w.drawn + 1 } := by
      simp [choose, Sem.run, Question.forced, N]
    have hask : ∀ q, (askRoom q).run P { w with drawn := w.drawn + 1 } = .ok () { w with drawn := w.drawn + 1 } := by
      intro q
      unfold askRoom
      split
      · simp [mark, Sem.run]
      · simp
    have hb0 : ¬ (((len + j : Nat) : Int) > IntKind.i64.max ∧ (True ∨ i.bytes = 0)) := fun hh => by
      have h1 := hh.1
      have h2 : IntKind.i64.max = 9223372036854775807 := by decide
      rw [h2] at h1
      have : len + j ≤ (2 * (len + j) + 192) * by_ := Nat.le_trans (by omega) (Nat.le_mul_of_pos_right _ hbp)
      omega
    have h48 : ¬ ((j : Int) * (i.bytes : Int) > 2 ^ 48) := by
      rw [hib, ← Int.natCast_mul]
      omega
    have hjk : ¬ (j * k = 0) := Nat.mul_ne_zero (by omega) (by have := he.pos; omega)
    have hj0 : ¬ ((j : Int) < 0) := by omega
    simp only [List.getElem?_toArray, List.getElem?_cons_zero, List.getElem?_cons_succ, Sem.run_bind, tund_run (tslice_und he.sl), tsz_run he.sz, Result.andThen_ok, tund_run hxT, Sem.run_pure, if_true, asInt, asIntOf, hw]
    rw [if_neg hj0]
    simp only [Sem.run_bind, Sem.run_pure, Result.andThen_ok, hti]
    rw [if_neg h48]
    simp only [Sem.run_bind, Sem.run_pure, Result.andThen_ok, Int.toNat_natCast]
    rw [if_neg (by omega)]
    simp only [Sem.run_bind, hti, Result.andThen_ok]
    rw [if_neg hb0]
    simp only [Sem.run_bind, hti, Result.andThen_ok, Sem.run_pure]
    rw [if_neg hb']
    simp only [Sem.run_bind, Sem.run_pure, hch, hti', Result.andThen_ok, hask, hov, hz1, Bool.not_true, Bool.false_eq_true, if_false, if_neg hjk, newRow_run]
  · refine (ho.drawn (w.drawn + 1)).push ?_
    have hsz : (ov ++ Builtin.zeroCells zv.cells j ++ Builtin.zeroCells zv.cells (N - (len + j))).size = N * k := by
      have hzs : zv.cells.size = k := by rw [(hz2 F).1, he.zl]
      simp only [Array.size_append, Builtin.zeroCells, Array.size_map, Array.size_range, hzs, hor.1, hol]
      rw [← Nat.add_mul, ← Nat.add_mul]
      congr 1
      omega
    have := OR.cells (F := F) e ((cs.drop o').take (len * k) ++ zcells z (j * k)) (ov ++ Builtin.zeroCells zv.cells j ++ Builtin.zeroCells zv.cells (N - (len + j))) (0, 0) (by simp [hor.1, hzr.1]) (fun i _ h => by simp at h) (fun i v hv => ?_)
    · rwa [hsz] at this
    · have := (vrs_append hor hzr)
      have hlt := (List.getElem?_eq_some_iff.1 hv).1
      obtain ⟨x, hx, r⟩ := vrs_get this hv
      rw [Array.getD_eq_getD_getElem?, Array.getElem?_append_left (by rw [this.1]; exact hlt), hx]
      exact r
  · exact (Trans.drawn F h w (w.drawn + 1)).trans (Trans.push F h { w with drawn := w.drawn + 1 } _ _)
theorem putL_get2 {cs : List V} {o : Nat} {vs : List V} (h : o ≤ cs.length) (i : Nat) : (putL cs o vs)[i]? = if o ≤ i ∧ i < o + vs.length then vs[i - o]? else cs[i]? := by
  unfold putL
  by_cases h1 : i < o
  · rw [if_neg (by omega), List.append_assoc, List.getElem?_append_left (by simp; omega), List.getElem?_take_of_lt h1]
  · have ht : (cs.take o).length = o := by simp; omega
    by_cases h2 : i < o + vs.length
    · rw [if_pos ⟨by omega, h2⟩, List.append_assoc, List.getElem?_append_right (by omega), ht, List.getElem?_append_left (by omega)]
    · rw [if_neg (by omega), List.append_assoc, List.getElem?_append_right (by omega), ht, List.getElem?_append_right (by omega), List.getElem?_drop]
      congr 1
      omega
theorem OpS.copyX {sT e xT : TypeId} {a b : Operand} {k m len cap p o' nn : Nat} {T : TypeId} {us cs : List V} {x : V} (hop : IsCopy o sT xT a b) (hsl : tslice P sT = some e) (hsz : tsz P e = some k) (ha : evO t a = some (.slice p o' len cap)) (hb : evO t b = some x)
    (hg : hget h p = some (.cells T cs nn)) (hs : evSrc h k x = some (us, m)) (hl : o' ≤ cs.length) (hln : o' + (min m len) * k ≤ nn) (hlf : (us.take ((min m len) * k)).all leafV = true)
    (hk : K (.int .i64 (min m len : Nat)) (hset h p (.cells T (putL cs o' (us.take ((min m len) * k))) nn))) : OpS P ρ n o t h K := by
  refine OpS.of_value (by simp [hop.op]) fun F w tm D ho hf => ?_
  have ea := (evO_r (ds := D) hf ha).slice_inv
  have ex := evO_r (ds := D) hf hb
  obtain ⟨s1, s2, s3⟩ := evSrc_run (P := P) ho ex hs
  obtain ⟨uv, hu, hur⟩ := s3 (min m len) (Nat.min_le_left _ _)
  obtain ⟨c, fz, hc, hl', rfl, hz, hr⟩ := own_cells ho hg
  have hmk : min m len * k ≤ m * k := Nat.mul_le_mul_right _ (Nat.min_le_left _ _)
  have hlen : (us.take (min m len * k)).length = min m len * k := by simp; omega
  have hst := run_storeCells (P := P) (b := p) (T := T) (fz := fz) uv.toList w c o' 0 hc (by have := hur.1; simp only [Nat.add_zero, Array.length_toList]; omega) hz (vrs_leaf hur hlf)
  refine ⟨_, .int .i64 ((min m len : Nat) : Int), _, F, w.putObj p (.cells (putA c o' uv.toList) T fz), hop.exec ?_, hk, ho.put (hget_ns hg) ?_, .int _ _, Trans.put _ _ (hget_ns hg)⟩
  · rw [ea]
    unfold Builtin.copy_
    simp only [List.getElem?_toArray, List.getElem?_cons_zero, List.getElem?_cons_succ, Sem.run_bind, tund_run (tslice_und hsl), tsz_run hsz, Result.andThen_ok, s1]
    have : Nat.min m len = min m len := rfl
    simp only [this, hu, Result.andThen_ok, hst, Nat.add_zero, Sem.run_pure, goInt]
  · have hpl : (putL cs o' (us.take (min m len * k))).length ≤ c.size := by simp [putL]; omega
    have := OR.cells (F := F) T (putL cs o' (us.take (min m len * k))) (putA c o' uv.toList) fz (by rw [putA_size]; exact hpl) (by rw [putA_size]; exact hz) (fun i v hv => ?_)
    · rwa [putA_size] at this
    · have hs0 : uv.toList.length = (us.take (min m len * k)).length := by simpa using hur.1
      have hi : i < (putL cs o' (us.take (min m len * k))).length := (List.getElem?_eq_some_iff.1 hv).1
      rw [putL_get2 hl] at hv
      rw [Array.getD_eq_getD_getElem?, putA_get]
      by_cases hcc : o' ≤ i ∧ i < o' + (us.take (min m len * k)).length
      · rw [if_pos hcc] at hv
        rw [if_pos ⟨hcc.1, by rw [hs0]; exact hcc.2, by omega⟩]
        obtain ⟨x', hx', r⟩ := vrs_get hur hv
        rw [Array.getElem?_toList, hx']; exact r
      · rw [if_neg hcc] at hv
        rw [if_neg (fun h => hcc ⟨h.1, by rw [← hs0]; exact h.2.1⟩)]
        have := hr i v hv
        rwa [Array.getD_eq_getD_getElem?] at this
theorem own_first2 {F : Froz} {w : World} (ho : Own F h w) {b o' len l2 cap k nn : Nat} {T : TypeId} {cs : List V} (hg : hget h b = some (.cells T cs nn)) (hl : o' + len * k ≤ cs.length) :
    ∃ ov, (Builtin.firstCells k len (.slice (some ⟨b, o', none⟩) l2 cap)).run P w = .ok ov w ∧ VRs F ((cs.drop o').take (len * k)) ov := by
  obtain ⟨ov, h1, h2⟩ := own_first (P := P) (cap := cap) ho hg hl w.drawn
  exact ⟨ov, h1, h2⟩
/-- A copy from a slice of which the first cells are known, as many as are copied; the two may lie in one row. -/
theorem OpS.copyS {sT e xT : TypeId} {a b : Operand} {k l2 c2 o2 p2 nn2 len cap p o' nn : Nat} {T T2 : TypeId} {cs cs2 : List V} (hop : IsCopy o sT xT a b) (hsl : tslice P sT = some e) (hsz : tsz P e = some k) (ha : evO t a = some (.slice p o' len cap)) (hb : evO t b = some (.slice p2 o2 l2 c2))
    (hg : hget h p = some (.cells T cs nn)) (hg2 : hget h p2 = some (.cells T2 cs2 nn2)) (hl2 : o2 + (min l2 len) * k ≤ cs2.length) (hl : o' ≤ cs.length) (hln : o' + (min l2 len) * k ≤ nn) (hlf : ((cs2.drop o2).take ((min l2 len) * k)).all leafV = true)
    (hk : K (.int .i64 (min l2 len : Nat)) (hset h p (.cells T (putL cs o' ((cs2.drop o2).take ((min l2 len) * k))) nn))) : OpS P ρ n o t h K := by
  refine OpS.of_value (by simp [hop.op]) fun F w tm D ho hf => ?_
  have ea := (evO_r (ds := D) hf ha).slice_inv
  have ex := (evO_r (ds := D) hf hb).slice_inv
  obtain ⟨uv, hu, hur⟩ := own_first2 (P := P) (l2 := l2) (cap := c2) ho hg2 hl2
  obtain ⟨c, fz, hc, hl', rfl, hz, hr⟩ := own_cells ho hg
  have hlen : ((cs2.drop o2).take (min l2 len * k)).length = min l2 len * k := by simp; omega
  generalize (cs2.drop o2).take (min l2 len * k) = us at *
  have hst := run_storeCells (P := P) (b := p) (T := T) (fz := fz) uv.toList w c o' 0 hc (by have := hur.1; simp only [Nat.add_zero, Array.length_toList]; omega) hz (vrs_leaf hur hlf)
  refine ⟨_, .int .i64 ((min l2 len : Nat) : Int), _, F, w.putObj p (.cells (putA c o' uv.toList) T fz), hop.exec ?_, hk, ho.put (hget_ns hg) ?_, .int _ _, Trans.put _ _ (hget_ns hg)⟩
  · rw [ea, ex]
    unfold Builtin.copy_
    have : Nat.min l2 len = min l2 len := rfl
    simp only [List.getElem?_toArray, List.getElem?_cons_zero, List.getElem?_cons_succ, Sem.run_bind, tund_run (tslice_und hsl), tsz_run hsz, Result.andThen_ok, Builtin.lenOf, Sem.run_pure, this, hu, hst, Nat.add_zero, goInt]
  · have hpl : (putL cs o' us).length ≤ c.size := by simp [putL]; omega
    have := OR.cells (F := F) T (putL cs o' us) (putA c o' uv.toList) fz (by rw [putA_size]; exact hpl) (by rw [putA_size]; exact hz) (fun i v hv => ?_)
    · rwa [putA_size] at this
    · have hs0 : uv.toList.length = us.length := by simpa using hur.1
      have hi : i < (putL cs o' us).length := (List.getElem?_eq_some_iff.1 hv).1
      rw [putL_get2 hl] at hv
      rw [Array.getD_eq_getD_getElem?, putA_get]
      by_cases hcc : o' ≤ i ∧ i < o' + us.length
      · rw [if_pos hcc] at hv
        rw [if_pos ⟨hcc.1, by rw [hs0]; exact hcc.2, by omega⟩]
        obtain ⟨x', hx', r⟩ := vrs_get hur hv
        rw [Array.getElem?_toList, hx']; exact r
      · rw [if_neg hcc] at hv
        rw [if_neg (fun h => hcc ⟨h.1, by rw [← hs0]; exact h.2.1⟩)]
        have := hr i v hv
        rwa [Array.getD_eq_getD_getElem?] at this
/-- What is asked of the function slices.overlaps. -/
structure IsOverlaps (P : Program) (f : FuncId) (tS tR e : TypeId) (k : Nat) : Prop where
  fn : ∃ fn, P.funcs[f]? = some fn ∧ (fn.name == "runtime.NumGoroutine") = false ∧ fn.body.isNone = true ∧ Extern.findNext fn = none ∧ Extern.find fn = some (Extern.SlicesOverlaps.overlaps #[tS, tS] #[tR])
  sl : tslice P tS = some e
  sz : tsz P e = some k
theorem CallS.overlaps {f : FuncId} {tS tR e : TypeId} {k b1 l1 c1 b2 o2 l2 c2 n1 n2 : Nat} {T1 T2 : TypeId} {cs1 cs2 : List V} (hv : IsOverlaps P f tS tR e k) (hne : b1 ≠ b2) (h1 : hget h b1 = some (.cells T1 cs1 n1)) (h2 : hget h b2 = some (.cells T2 cs2 n2)) (hn1 : 0 < n1) (hn2 : 0 < n2) (hT1 : T1 ≠ 5)
    (hk : K (.bool false) h) : CallS P f [.slice b1 0 l1 c1, .slice b2 o2 l2 c2] h K := by
  intro F w av ρ o a next Q' ho hav hn
  obtain ⟨fn, hf, hnm, hbd, hfn, hfe⟩ := hv.fn
  obtain ⟨x1, e1, r1⟩ := vrs_get hav (i := 0) rfl
  obtain ⟨x2, e2, r2⟩ := vrs_get hav (i := 1) rfl
  have r1 := r1.slice_inv
  have r2 := r2.slice_inv
  have hsz := hav.1
  simp only [List.length_cons, List.length_nil] at hsz
  have eav : av = #[x1, x2] := by
    apply Array.ext_getElem?
    intro i
    match i with
    | 0 => simpa using e1
    | 1 => simpa using e2
    | i + 2 => rw [Array.getElem?_eq_none (by omega), Array.getElem?_eq_none (by simp)]
  subst r1 r2
  obtain ⟨c, fz, hc, hl, rfl, hz, hr⟩ := own_cells ho h1
  obtain ⟨c', fz', hc', hl', rfl, hz', hr'⟩ := own_cells ho h2
  have s1 : w.shape? b1 = some (T1, c.size) := by unfold World.shape?; rw [hc]
  have s2 : w.shape? b2 = some (T2, c'.size) := by unfold World.shape?; rw [hc']
  have f1 : ∀ i, i < c.size ∨ (i = c.size ∧ T1 ≠ 5) → w.frozen? ⟨b1, i, none⟩ = false := fun i hi => by
    unfold World.frozen?
    simp only [hc]
    have := hz i hi
    obtain ⟨g1, g2⟩ := fz
    simp only at this ⊢
    simp only [Bool.and_eq_false_imp, decide_eq_true_eq, decide_eq_false_iff_not]
    intro a1 a2
    exact this ⟨a1, a2⟩
  have hr := Lib.run_overlaps_apart (P := P) w tS tR e (tslice_und hv.sl) k (fun w => tsz_run hv.sz) ⟨b1, 0, none⟩ ⟨b2, o2, none⟩ l1 c1 l2 c2 hne T1 T2 c.size c'.size s1 s2 (by omega) (f1 0 (.inl hn1)) (f1 c.size (.inr ⟨rfl, hT1⟩))
  rw [run_callFunc_extern hf hnm hbd hfn hfe, eav, hr]
  exact hn _ _ _ _ _ hk ho (.bool false) (Trans.refl _ _ _)
variable {ops : Array Oper} {os : List Oper} {K' : Fr → Hp → Prop}
/-- Two operations that are ready, in either order. -/
theorem wA.eff2 {fuel : Nat} {L : List Nat} (i j : Nat) {oi oj : Oper} (hoi : ops.toList[i]? = some oi) (hoj : ops.toList[j]? = some oj) (hr : rdy ops L = [i, j]) (hgi : gdY ops t oi = true) (hgj : gdY ops t oj = true)
    (hwi : wGo P ρ n ops oi [] (rs ops t oi) h fun t' h' => wA P ρ n ops fuel (i :: L) (mrg t t') h' K')
    (hwj : wGo P ρ n ops oj [] (rs ops t oj) h fun t' h' => wA P ρ n ops fuel (j :: L) (mrg t t') h' K') : wA P ρ n ops (fuel + 1) L t h K' := by
  rw [Array.getElem?_toList] at hoi hoj
  rw [wA]
  refine ⟨fun e => by rw [e] at hr; simp at hr, fun m hm om hom => ?_⟩
  rw [hr] at hm
  simp only [List.mem_cons, List.not_mem_nil, or_false] at hm
  rcases hm with rfl | rfl
  · obtain rfl : oi = om := by rw [hoi] at hom; exact Option.some.inj hom
    refine wStep.yes hwi.1 hgi (WOp_mono hwi.2 fun v h' hk => ?_)
    have hk : wA P ρ n ops fuel (m :: L) (mrg t (updO (rs ops t oi) oi.dst v)) h' K' := hk
    rwa [mrg_updO] at hk
  · obtain rfl : oj = om := by rw [hoj] at hom; exact Option.some.inj hom
    refine wStep.yes hwj.1 hgj (WOp_mono hwj.2 fun v h' hk => ?_)
    have hk : wA P ρ n ops fuel (m :: L) (mrg t (updO (rs ops t oj) oj.dst v)) h' K' := hk
    rwa [mrg_updO] at hk
theorem gSliceS {d : Nat} {T e ty : TypeId} {a : Operand} {lo hi : Option Operand} {b o' len cap k o2 l2 c2 : Nat} {l r : Option Nat} {pos : String} {after : Array Edge} {gd : Option (Nat × Bool)} (hT : tslice P T = some e) (hk : tsz P e = some k) (ha : evO t a = some (.slice b o' len cap)) (hl : evB t lo = some l) (hr : evB t hi = some r)
    (e1 : o2 = if cap = l.getD 0 then o' else o' + l.getD 0 * k) (e2 : l2 = r.getD len - l.getD 0) (e3 : c2 = cap - l.getD 0) (h1 : l.getD 0 ≤ r.getD len) (h2 : r.getD len ≤ cap) (hw : wOps P ρ n ops os (upd t d (.slice b o2 l2 c2)) h K') (hn : d < n := by decide) : wGo P ρ n ops ⟨some d, .slice T a lo hi none, ty, pos, after, gd⟩ os t h K' := by
  subst e1 e2 e3
  refine ⟨hn, ?_⟩
  have h4 : evB t none = some none := rfl
  simp only [WOp, evP, ha, hl, hr, h4, evSlice, hT, hk]
  rw [if_pos (by simp [h1, h2])]
  exact hw
theorem gSliceN {d : Nat} {T e ty : TypeId} {a : Operand} {lo hi : Option Operand} {k : Nat} {l r : Option Nat} {pos : String} {after : Array Edge} {gd : Option (Nat × Bool)} (hT : tslice P T = some e) (hk : tsz P e = some k) (ha : evO t a = some .nilslice) (hl : evB t lo = some l) (hr : evB t hi = some r)
    (h1 : l.getD 0 = 0) (h2 : r.getD 0 = 0) (hw : wOps P ρ n ops os (upd t d .nilslice) h K') (hn : d < n := by decide) : wGo P ρ n ops ⟨some d, .slice T a lo hi none, ty, pos, after, gd⟩ os t h K' := by
  refine ⟨hn, ?_⟩
  have h4 : evB t none = some none := rfl
  simp only [WOp, evP, ha, hl, hr, h4, evSlice, hT, hk]
  rw [if_pos (by simp [h1, h2])]
  exact hw
end Go.Fw
end
