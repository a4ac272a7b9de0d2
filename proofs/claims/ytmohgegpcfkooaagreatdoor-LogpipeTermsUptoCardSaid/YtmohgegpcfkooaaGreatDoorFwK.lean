/- A part of the proof: FwK -/
import Derived.Test.YtmohgegpcfkooaaGreatDoorFwJ
set_option linter.all false
set_option linter.unusedSectionVars false
set_option linter.unusedVariables false
set_option linter.unusedSimpArgs false
namespace Go.Fw
variable [Gl]
variable {P : Program} {ρ : Option Nat} {n : Nat} {o : Oper} {t : Fr} {h : Hp} {K : V → Hp → Prop}
def evSrc (h : Hp) (k : Nat) : V → Option (List V × Nat)
  | .nilslice => some ([], 0)
  | .eslice => some ([], 0)
  | .slice b o len _ => match hget h b with
    | some (.cells _ cs _) => if o + len * k ≤ cs.length then some ((cs.drop o).take (len * k), len) else none
    | _ => none
  | .fslice cs len => if len * k ≤ cs.length then some (cs.take (len * k), len) else none
  | .str s => if k = 1 then some (s.map fun b => .int .u8 b.toNat, s.length) else none
  | _ => none
theorem evSrc_run {F : Froz} {w : World} (ho : Own F h w) {k m : Nat} {x : V} {xv : Value} {us : List V} (hx : VR F x xv) (hs : evSrc h k x = some (us, m)) :
    (Builtin.lenOf xv).run P w = .ok m w ∧ us.length = m * k ∧ ∀ j, j ≤ m → ∃ uv, (Builtin.firstCells k j xv).run P w = .ok uv w ∧ VRs F (us.take (j * k)) uv := by
  unfold evSrc at hs
  split at hs
  · obtain rfl := hx.nilslice_inv
    simp only [Option.some.injEq, Prod.mk.injEq] at hs
    obtain ⟨rfl, rfl⟩ := hs
    exact ⟨by simp [Builtin.lenOf], by simp, fun j hj => ⟨#[], by simp [Builtin.firstCells], by simpa using VRs.nil F⟩⟩
  · obtain ⟨a, rfl⟩ := hx.eslice_inv
    simp only [Option.some.injEq, Prod.mk.injEq] at hs
    obtain ⟨rfl, rfl⟩ := hs
    refine ⟨by simp [Builtin.lenOf], by simp, fun j hj => ⟨#[], ?_, by simpa using VRs.nil F⟩⟩
    obtain rfl : j = 0 := by omega
    cases a <;> simp [Builtin.firstCells, loadCells, loadCellsFrom]
  · rename_i b o len cap
    obtain rfl := hx.slice_inv
    split at hs
    · rename_i T cs nn hg
      split at hs
      · rename_i hl
        simp only [Option.some.injEq, Prod.mk.injEq] at hs
        obtain ⟨rfl, rfl⟩ := hs
        obtain ⟨c, fz, hc, hl', rfl, hz, hr⟩ := own_cells ho hg
        refine ⟨by simp [Builtin.lenOf], by simp; omega, fun j hj => ?_⟩
        have hjk : j * k ≤ len * k := Nat.mul_le_mul_right _ hj
        refine ⟨((List.range (j * k)).map fun i => c.getD (o + i) undef).toArray, ?_, ?_⟩
        · exact run_loadCells (fun i => c.getD (o + i) undef) (fun i hi => by
            rw [add_mk, cell_of_block hc]
            have : o + i < c.size := by omega
            simp [this])
        · refine ⟨by simp; omega, fun i v hv => ?_⟩
          have hi : i < j * k := by have := (List.getElem?_eq_some_iff.1 hv).1; simp at this; omega
          rw [List.getElem?_take_of_lt hi, List.getElem?_take_of_lt (by omega), List.getElem?_drop] at hv
          simpa [hi] using hr _ _ hv
      · simp at hs
    · simp at hs
  · rename_i cs len
    split at hs
    · rename_i hl
      simp only [Option.some.injEq, Prod.mk.injEq] at hs
      obtain ⟨rfl, rfl⟩ := hs
      rcases hx.fslice_inv with ⟨rfl, rfl, rfl⟩ | ⟨a, cap, g, rfl, hlc, g1, g2⟩
      · exact ⟨by simp [Builtin.lenOf], by simp, fun j hj => ⟨#[], by simp [Builtin.firstCells], by simpa using VRs.nil F⟩⟩
      refine ⟨by simp [Builtin.lenOf], by simp; omega, fun j hj => ?_⟩
      have hjk : j * k ≤ len * k := Nat.mul_le_mul_right _ hj
      refine ⟨((List.range (j * k)).map g).toArray, ?_, ?_⟩
      · exact run_loadCells g (fun i hi => fcell_cell ho (g1 i (by omega)))
      · refine ⟨by simp; omega, fun i v hv => ?_⟩
        have hi : i < j * k := by have := (List.getElem?_eq_some_iff.1 hv).1; simp at this; omega
        rw [List.getElem?_take_of_lt hi, List.getElem?_take_of_lt (by omega)] at hv
        simpa [hi] using g2 _ _ hv
    · simp at hs
  · rename_i s
    obtain rfl := hx.str_inv
    split at hs
    · rename_i hk
      subst hk
      simp only [Option.some.injEq, Prod.mk.injEq] at hs
      obtain ⟨rfl, rfl⟩ := hs
      refine ⟨by simp [Builtin.lenOf, ba_size], by simp, fun j hj => ⟨_, rfl, ?_⟩⟩
      rw [ba_extract]
      refine ⟨by simp, fun i v hv => ?_⟩
      have hi : i < j := by have := (List.getElem?_eq_some_iff.1 hv).1; simp at this; omega
      rw [List.getElem?_take_of_lt (by omega), List.getElem?_map] at hv
      obtain ⟨b, hb, rfl⟩ := Option.map_eq_some_iff.1 hv
      have : ((List.take (j - 0) (List.drop 0 s)).toArray.map fun b => Value.int .u8 b.toNat).getD i undef = .int .u8 b.toNat := by
        rw [Array.getD_eq_getD_getElem?]
        simp [hi, hb, List.getElem?_take_of_lt]
      rw [this]; exact .int _ _
    · simp at hs
  · simp at hs
def appT (P : Program) (T : TypeId) : Bool := (tslice P T).isSome || tisstr P T
theorem appT_und {T : TypeId} (hT : appT P T = true) : (∃ e, P.underlying T = some (.slice e)) ∨ P.underlying T = some .string := by
  simp only [appT, Bool.or_eq_true] at hT
  rcases hT with h | h
  · obtain ⟨e, he⟩ := Option.isSome_iff_exists.1 h
    exact .inl ⟨_, tslice_und he⟩
  · exact .inr (tisstr_und h)
theorem nextslicecap_le (a c : Nat) (h : c < a) : Builtin.nextslicecap a c ≤ 2 * a + 192 := by
  unfold Builtin.nextslicecap
  split
  · omega
  · split
    · omega
    · have : ∀ r x, x ≤ 2 * a + 192 → Builtin.growBy a r x ≤ 2 * a + 192 := by
        intro r
        induction r with
        | zero => intro x hx; exact hx
        | succ r ih =>
          intro x hx
          unfold Builtin.growBy
          split
          · exact hx
          · exact ih _ (by omega)
      exact this 4 c (by omega)
structure ElemOk (P : Program) (sT e : TypeId) (k by_ : Nat) (z : List V) : Prop where
  sl : tslice P sT = some e
  sz : tsz P e = some k
  bytes : tby P e = some by_
  zero : tzero P e = some z
  zl : z.length = k
  pos : 0 < k
  bpos : 0 < by_
theorem append_run {F : Froz} {w : World} (ho : Own F h w) {sT e xT : TypeId} {k by_ : Nat} {z : List V} (he : ElemOk P sT e k by_ z) (hxT : appT P xT = true) {base : Option Addr} {len cap m : Nat} {x : V} {xv : Value} {us : List V}
    (hx : VR F x xv) (hs : evSrc h k x = some (us, m)) {ty : TypeId} :
    (len + m ≤ cap → ∀ w', (∀ uv, (Builtin.firstCells k m xv).run P w = .ok uv w → VRs F us uv → (match base with | some a => storeCells (a.add (len * k)) uv.toList | none => pure ()).run P w = .ok () w') →
      (Builtin.append_ #[sT, xT] ty #[.slice base len cap, xv]).run P w = .ok (.slice base (len + m) cap) w') ∧
    (cap < len + m → (2 * (len + m) + 192) * by_ ≤ 281474976710656 → ∀ ov old, (Builtin.firstCells k len (.slice base len cap)).run P { w with drawn := w.drawn + 1 } = .ok ov { w with drawn := w.drawn + 1 } → VRs F old ov → old.length = len * k →
      ∃ N arr, len + m ≤ N ∧ OR F (.cells e (old ++ us) (N * k)) (.cells arr e) ∧ (Builtin.append_ #[sT, xT] ty #[.slice base len cap, xv]).run P w = .ok (.slice (some ⟨w.heap.size, 0, none⟩) (len + m) N) (({ w with drawn := w.drawn + 1 } : World).alloc (.cells arr e))) := by
  obtain ⟨h1, h2, h3⟩ := evSrc_run (P := P) ho hx hs
  obtain ⟨i, hi, hib⟩ := tby_info he.bytes
  constructor
  · intro hcap w' hst
    obtain ⟨uv, hu, hur⟩ := h3 m (Nat.le_refl _)
    rw [← h2, List.take_length] at hur
    have hst := hst uv hu hur
    unfold Builtin.append_
    rcases appT_und hxT with ⟨e', hd⟩ | hd
    all_goals
      simp only [List.getElem?_toArray, List.getElem?_cons_zero, List.getElem?_cons_succ, Sem.run_bind, tund_run (tslice_und he.sl), tsz_run he.sz, Result.andThen_ok, tund_run hd, Sem.run_pure, Bool.false_eq_true, if_false, h1]
      rw [if_pos hcap]
      simp only [Sem.run_bind, Bool.not_false, if_true, hu, Result.andThen_ok]
      cases base with
      | none =>
        simp only [Sem.run_pure, Result.ok.injEq, true_and] at hst
        subst hst
        simp
      | some a =>
        simp only at hst
        simp only [hst, Result.andThen_ok, Sem.run_pure, Sem.run_bind]
  · intro hcap hb ov old hov hor hol
    have hod : Own F h { w with drawn := w.drawn + 1 } := ho.drawn _
    obtain ⟨_, _, h3'⟩ := evSrc_run (P := P) hod hx hs
    obtain ⟨uv, hu, hur⟩ := h3' m (Nat.le_refl _)
    rw [← h2, List.take_length] at hur
    obtain ⟨zv, hz1, hz2⟩ := tzero_run (P := P) (w := { w with drawn := w.drawn + 1 }) he.zero
    have hnc := nextslicecap_le (len + m) cap hcap
    have hb' : ¬ (Builtin.nextslicecap (len + m) cap * i.bytes > 2 ^ 48) := by
      rw [hib]
      have : Builtin.nextslicecap (len + m) cap * by_ ≤ (2 * (len + m) + 192) * by_ := Nat.mul_le_mul_right _ hnc
      omega
    have hbp := he.bpos
    let N := (Question.appendCap (len + m) cap e).cut (w.tape w.drawn (.appendCap (len + m) cap e))
    have hN : len + m ≤ N := by show len + m ≤ (len + m) + _; omega
    refine ⟨N, ov ++ uv ++ Builtin.zeroCells zv.cells (N - (len + m)), hN, ?_, ?_⟩
    · have hsz : (ov ++ uv ++ Builtin.zeroCells zv.cells (N - (len + m))).size = N * k := by
        have hzs : zv.cells.size = k := by rw [(hz2 F).1, he.zl]
        simp only [Array.size_append, Builtin.zeroCells, Array.size_map, Array.size_range, hzs, hor.1, hur.1, hol, h2]
        rw [← Nat.add_mul, ← Nat.add_mul]
        congr 1
        omega
      have := OR.cells (F := F) e (old ++ us) (ov ++ uv ++ Builtin.zeroCells zv.cells (N - (len + m))) (0, 0) (by simp [hor.1, hur.1]) (FzOk.zero _ _) (fun i v hv => ?_)
      · rwa [hsz] at this
      · rw [Array.getD_eq_getD_getElem?]
        by_cases hi : i < old.length
        · rw [List.getElem?_append_left hi] at hv
          rw [Array.append_assoc, Array.getElem?_append_left (by rw [hor.1]; exact hi)]
          have := hor.2 i v hv
          rwa [Array.getD_eq_getD_getElem?] at this
        · rw [List.getElem?_append_right (by omega)] at hv
          have hiu : i - old.length < us.length := (List.getElem?_eq_some_iff.1 hv).1
          rw [Array.append_assoc, Array.getElem?_append_right (by rw [hor.1]; omega), hor.1, Array.getElem?_append_left (by rw [hur.1]; exact hiu)]
          have := hur.2 _ v hv
          rwa [Array.getD_eq_getD_getElem?] at this
    · unfold Builtin.append_
      have hti : (typeInfo e).run P w = .ok i w := by simp [typeInfo, Sem.run_bind, hi]
      have hti' : (typeInfo e).run P { w with drawn := w.drawn + 1 } = .ok i { w with drawn := w.drawn + 1 } := by simp [typeInfo, Sem.run_bind, hi]
      have hch : (choose (.appendCap (len + m) cap e)).run P w = .ok N { w with drawn := w.drawn + 1 } := by
        simp [choose, Sem.run, Question.forced, N]
      have hask : ∀ q, (askRoom q).run P { w with drawn := w.drawn + 1 } = .ok () { w with drawn := w.drawn + 1 } := by
        intro q
        unfold askRoom
        split
        · simp [mark, Sem.run]
        · simp
      have hb0 : ¬ (((len + m : Nat) : Int) > IntKind.i64.max ∧ (False ∨ i.bytes = 0)) := fun hh => by
        rcases hh.2 with hh | hh
        · exact hh
        · omega
      rcases appT_und hxT with ⟨e', hd⟩ | hd
      all_goals
        simp only [List.getElem?_toArray, List.getElem?_cons_zero, List.getElem?_cons_succ, Sem.run_bind, tund_run (tslice_und he.sl), tsz_run he.sz, Result.andThen_ok, tund_run hd, Sem.run_pure, Bool.false_eq_true, if_false, h1]
        rw [if_neg (by omega)]
        simp only [Sem.run_bind, hti, Result.andThen_ok, Bool.false_eq_true]
        rw [if_neg hb0]
        simp only [Sem.run_bind, hti, Result.andThen_ok, Sem.run_pure]
        rw [if_neg hb']
        simp only [Sem.run_bind, Sem.run_pure, hch, hti', Result.andThen_ok, hask, hov, hu, hz1, Bool.not_false, if_true, newRow_run]
structure IsApp (o : Oper) (sT xT : TypeId) (a b : Operand) : Prop where
  op : o.op = .call { callee := .builtin .append, args := #[a, b], argTypes := #[sT, xT] }
theorem IsApp.defer {sT xT : TypeId} {a b : Operand} (h : IsApp o sT xT a b) : ∀ c, o.op ≠ .defer c := by simp [h.op]
theorem IsApp.exec {w w' : World} {sT xT : TypeId} {a b : Operand} (h : IsApp o sT xT a b) {σ : Operand → Value} {r : Value} (hr : (Builtin.append_ #[sT, xT] o.type #[σ a, σ b]).run P w = .ok r w') :
    (execOp σ o).run P w = .ok (.value r) w' := by
  simp [execOp, h.op, resolve, invoke, builtin, Sem.run_bind, hr]
theorem Own.drop1 {F : Froz} {w : World} (ho : Own F h w) (b : Nat) : Own F (hdel h b) w := ho.sub (by
  induction h with
  | nil => simp [hdel]
  | cons p r ih =>
    simp only [hdel]
    split
    · exact List.sublist_cons_self _ _
    · exact (ih (ho.sub (List.sublist_cons_self _ _))).cons_cons _)
theorem hdel_sub (h : Hp) (b : Nat) : (hdel h b).Sublist h := by
  induction h with
  | nil => simp [hdel]
  | cons p r ih =>
    simp only [hdel]
    split
    · exact List.sublist_cons_self _ _
    · exact ih.cons_cons _
theorem hset_perm {b : Nat} {o : AObj} (hb : b ∈ h.ns) : (hset h b o).Perm ((b, o) :: hdel h b) := by
  induction h with
  | nil => simp at hb
  | cons p r ih =>
    simp only [hset, hdel]
    split
    · rename_i e; subst e; exact List.Perm.refl _
    · rename_i e
      simp only [Hp.ns_cons, List.mem_cons] at hb
      have := ih (hb.resolve_left fun e' => e e'.symm)
      exact (this.cons p).trans (List.Perm.swap _ _ _)
theorem OpS.append_nil {sT e xT : TypeId} {a b : Operand} {k by_ m : Nat} {z us : List V} {x : V} (hop : IsApp o sT xT a b) (he : ElemOk P sT e k by_ z) (hxT : appT P xT = true) (ha : evO t a = some .nilslice) (hb : evO t b = some x)
    (hs : evSrc h k x = some (us, m)) (hbd : (2 * m + 192) * by_ ≤ 281474976710656) (h0 : m = 0 → K .nilslice h) (h1 : 0 < m → ∀ q N, q ∉ h.ns → m ≤ N → K (.slice q 0 m N) ((q, .cells e us (N * k)) :: h)) : OpS P ρ n o t h K := by
  refine OpS.of_value hop.defer fun F w tm D ho hf => ?_
  have ea := (evO_r (ds := D) hf ha).nilslice_inv
  have ex := evO_r (ds := D) hf hb
  obtain ⟨r1, r2⟩ := append_run (P := P) ho he hxT (base := none) (len := 0) (cap := 0) ex hs (ty := o.type)
  rcases Nat.eq_zero_or_pos m with hm | hm
  · have := r1 (by omega) w (fun uv _ _ => by simp)
    refine ⟨.nilslice, .slice none 0 0, h, F, w, hop.exec ?_, h0 hm, ho, .nilslice, Trans.refl _ _ _⟩
    rw [ea]; simpa [hm] using this
  · obtain ⟨N, arr, hN, hor, hrun⟩ := r2 (by omega) (by simpa using hbd) #[] [] (by simp [Builtin.firstCells]) (VRs.nil F) (by simp)
    refine ⟨.slice w.heap.size 0 m N, _, _, F, _, hop.exec (by rw [ea]; exact hrun), h1 hm w.heap.size N ho.fresh (by omega), ?_, by simpa using VR.slice _ _ _ _ (by omega), ?_⟩
    · exact (ho.drawn (w.drawn + 1)).push (by simpa using hor)
    · exact (Trans.drawn F h w (w.drawn + 1)).trans (Trans.push F h { w with drawn := w.drawn + 1 } _ _)
theorem own_first {F : Froz} {w : World} (ho : Own F h w) {b o' len cap k nn : Nat} {T : TypeId} {cs : List V} (hg : hget h b = some (.cells T cs nn)) (hl : o' + len * k ≤ cs.length) (d : Nat) :
    ∃ ov, (Builtin.firstCells k len (.slice (some ⟨b, o', none⟩) len cap)).run P { w with drawn := d } = .ok ov { w with drawn := d } ∧ VRs F ((cs.drop o').take (len * k)) ov := by
  obtain ⟨c, fz, hc, hl', rfl, hz, hr⟩ := own_cells ho hg
  have hc' : ({ w with drawn := d } : World).heap[b]? = some (.cells c T fz) := hc
  refine ⟨((List.range (len * k)).map fun i => c.getD (o' + i) undef).toArray, ?_, ?_⟩
  · exact run_loadCells (fun i => c.getD (o' + i) undef) (fun i hi => by
      rw [add_mk, cell_of_block hc']
      have : o' + i < c.size := by omega
      simp [this])
  · refine ⟨by simp; omega, fun i v hv => ?_⟩
    have hi : i < len * k := by have := (List.getElem?_eq_some_iff.1 hv).1; simp at this; omega
    rw [List.getElem?_take_of_lt hi, List.getElem?_drop] at hv
    simpa [hi] using hr _ _ hv
theorem OpS.append_lin {sT e xT : TypeId} {a b : Operand} {k by_ m len cap p : Nat} {z us cs : List V} {x : V} (hop : IsApp o sT xT a b) (he : ElemOk P sT e k by_ z) (hxT : appT P xT = true) (ha : evO t a = some (.slice p 0 len cap)) (hb : evO t b = some x)
    (hg : hget h p = some (.cells e cs (cap * k))) (hl : len * k ≤ cs.length)
    (hs : evSrc h k x = some (us, m)) (hlf : us.all leafV = true) (hbd : (2 * (len + m) + 192) * by_ ≤ 281474976710656)
    (hk : ∀ q N, q ∉ (hdel h p).ns → len + m ≤ N → K (.slice q 0 (len + m) N) ((q, .cells e (cs.take (len * k) ++ us) (N * k)) :: hdel h p)) : OpS P ρ n o t h K := by
  refine OpS.of_value hop.defer fun F w tm D ho hf => ?_
  have ea := (evO_r (ds := D) hf ha).slice_inv
  have ex := evO_r (ds := D) hf hb
  obtain ⟨r1, r2⟩ := append_run (P := P) ho he hxT (base := some ⟨p, 0, none⟩) (len := len) (cap := cap) ex hs (ty := o.type)
  by_cases hc : len + m ≤ cap
  · obtain ⟨c, fz, hcx, hl', hsz, hz, hr⟩ := own_cells ho hg
    have hul := (evSrc_run (P := P) ho ex hs).2.1
    have hle : len * k + us.length ≤ c.size := by rw [hul, ← Nat.add_mul, ← hsz]; exact Nat.mul_le_mul_right _ hc
    have hdn : p ∉ (hdel h p).ns := fun hm => by
      obtain ⟨q, hq, e⟩ := List.mem_map.1 hm
      exact (hdel_mem (o' := q.2) ho.nodup hq).1 e
    obtain ⟨uv0, hu0, hur0⟩ := (evSrc_run (P := P) ho ex hs).2.2 m (Nat.le_refl _)
    have hst : ∀ uv, VRs F us uv → (storeCells ((⟨p, 0, none⟩ : Addr).add (len * k)) uv.toList).run P w = .ok () (w.putObj p (.cells (putA c (len * k) uv.toList) e fz)) := fun uv hu => by
      rw [add_mk, Nat.zero_add]
      have := run_storeCells (P := P) (b := p) (T := e) (fz := fz) uv.toList w c (len * k) 0 hcx (by have := hu.1; simp only [Nat.add_zero, Array.length_toList]; omega) hz (fun y hy => by
        obtain ⟨i, hi⟩ := List.getElem?_of_mem hy
        have hi' : i < us.length := by
          have := (List.getElem?_eq_some_iff.1 hi).1
          rw [Array.length_toList, hu.1] at this; exact this
        have hv' : us[i]? = some us[i] := by simp [hi']
        obtain ⟨x', hx', r⟩ := vrs_get hu hv'
        rw [Array.getElem?_toList, hx'] at hi
        simp only [Option.some.injEq] at hi; subst hi
        exact leaf_r r (by simp only [List.all_eq_true] at hlf; exact hlf _ (List.getElem_mem _)))
      simpa using this
    rw [← hul, List.take_length] at hur0
    have hfin : (Builtin.append_ #[sT, xT] o.type #[.slice (some ⟨p, 0, none⟩) len cap, Act.eval ⟨tm, D⟩ b]).run P w = .ok (.slice (some ⟨p, 0, none⟩) (len + m) cap) (w.putObj p (.cells (putA c (len * k) uv0.toList) e fz)) := by
      refine r1 hc _ fun uv h2 hu => ?_
      rw [hu0] at h2
      simp only [Result.ok.injEq, and_true] at h2
      subst h2
      exact hst uv0 hu
    have hor : OR F (.cells e (cs.take (len * k) ++ us) (cap * k)) (.cells (putA c (len * k) uv0.toList) e fz) := by
      have hs0 : uv0.toList.length = us.length := by simpa using hur0.1
      have := OR.cells (F := F) e (cs.take (len * k) ++ us) (putA c (len * k) uv0.toList) fz (by simp; omega) (by rw [putA_size]; exact hz) (fun i v hv => ?_)
      · rw [putA_size, ← hsz] at this; exact this
      · rw [Array.getD_eq_getD_getElem?, putA_get]
        by_cases hi : i < len * k
        · rw [List.getElem?_append_left (by simp; omega), List.getElem?_take_of_lt hi] at hv
          rw [if_neg (by omega)]
          have := hr i v hv
          rwa [Array.getD_eq_getD_getElem?] at this
        · rw [List.getElem?_append_right (by simp; omega)] at hv
          have e1 : i - (List.take (len * k) cs).length = i - len * k := by simp; omega
          rw [e1] at hv
          have hiu : i - len * k < us.length := (List.getElem?_eq_some_iff.1 hv).1
          rw [if_pos ⟨by omega, by rw [hs0]; omega, by omega⟩]
          obtain ⟨x', hx', r⟩ := vrs_get hur0 hv
          rw [Array.getElem?_toList, hx']; exact r
    refine ⟨.slice p 0 (len + m) cap, _, _, F, _, hop.exec (by rw [ea]; exact hfin), hk p cap hdn hc, ?_, .slice _ _ _ _ hc, ?_⟩
    · exact (ho.put (hget_ns hg) hor).perm (hset_perm (hget_ns hg)).symm
    · exact (Trans.put _ _ (hget_ns hg)).trans (Trans.perm (hset_perm (hget_ns hg)).symm)
  · obtain ⟨ov, hov, hor⟩ := own_first (P := P) (o' := 0) (len := len) (k := k) (cap := cap) ho hg (by rw [Nat.zero_add]; exact hl) (w.drawn + 1)
    rw [List.drop_zero] at hor
    obtain ⟨N, arr, hN, hor', hrun⟩ := r2 (by omega) hbd ov _ hov hor (by simp; omega)
    have hfr : w.heap.size ∉ (hdel h p).ns := fun hm => ho.fresh (hdel_ns_sub h p _ hm)
    refine ⟨.slice w.heap.size 0 (len + m) N, _, _, F, _, hop.exec (by rw [ea]; exact hrun), hk w.heap.size N hfr hN, ?_, .slice _ _ _ _ hN, ?_⟩
    · exact ((ho.drop1 p).drawn (w.drawn + 1)).push hor'
    · exact ((Trans.sub (hdel_sub h p)).trans (Trans.drawn F (hdel h p) w (w.drawn + 1))).trans (Trans.push F _ { w with drawn := w.drawn + 1 } _ _)
end Go.Fw
