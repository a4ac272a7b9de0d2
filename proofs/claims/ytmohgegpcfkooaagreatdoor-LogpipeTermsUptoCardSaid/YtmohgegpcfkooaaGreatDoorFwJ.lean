/- A part of the proof: FwJ -/
import Derived.Test.YtmohgegpcfkooaaGreatDoorFwI
set_option linter.all false
set_option linter.unusedSectionVars false
set_option linter.unusedVariables false
set_option linter.unusedSimpArgs false
namespace Go.Fw
variable [Gl]
variable {P : Program} {ρ : Option Nat} {n : Nat} {o : Oper} {t : Fr} {h : Hp} {K : V → Hp → Prop}
theorem newRow_run {w : World} {T : TypeId} {c : Array Value} : (newRow T c).run P w = .ok ⟨w.heap.size, 0, none⟩ (w.alloc (.cells c T)) := by
  simp [newRow, Sem.run_bind, newObj, Sem.run, World.alloc_eq]
theorem OR.new {F : Froz} {T : TypeId} {cs : List V} {c : Array Value} (hr : VRs F cs c) : OR F (.cells T cs cs.length) (.cells c T) := by
  have := OR.cells (F := F) T cs c (0, 0) (by rw [hr.1]; exact Nat.le_refl _) (FzOk.zero _ _) hr.2
  rwa [hr.1] at this
def WNew (h : Hp) (T : TypeId) (cs : List V) (nn : Nat) (mk : Nat → V) (K : V → Hp → Prop) : Prop := ∀ b, b ∉ h.ns → K (mk b) ((b, .cells T cs nn) :: h)
theorem OpS.alloc {T : TypeId} {z : List V} (hop : o.op = .alloc T) (hz : tzero P T = some z) (hk : WNew h T z z.length (.ptr · 0) K) : OpS P ρ n o t h K := by
  refine OpS.of_value (by simp [hop]) fun F w tm D ho hf => ?_
  obtain ⟨zv, h1, h2⟩ := tzero_run (P := P) (w := w) hz
  refine ⟨_, .pointer (some ⟨w.heap.size, 0, none⟩), _, F, _, ?_, hk w.heap.size ho.fresh, ho.push (OR.new (h2 F)), .ptr _ _, Trans.push _ _ _ _ _⟩
  simp [execOp, hop, Instr.alloc, Sem.run_bind, h1, newVar, newRow_run]
theorem OpS.box {T : TypeId} {x : Operand} {v : V} (hop : o.op = .box T x) (hx : evO t x = some v) (hk : WNew h T (vcells v) (vcells v).length (.ptr · 0) K) : OpS P ρ n o t h K := by
  refine OpS.of_value (by simp [hop]) fun F w tm D ho hf => ?_
  have hr := vr_cells (evO_r (ds := D) hf hx)
  refine ⟨_, .pointer (some ⟨w.heap.size, 0, none⟩), _, F, _, ?_, hk w.heap.size ho.fresh, ho.push (OR.new hr), .ptr _ _, Trans.push _ _ _ _ _⟩
  simp [execOp, hop, Instr.box, Sem.run_bind, newVar, newRow_run]
def zcells (z : List V) (k : Nat) : List V := (List.range k).map fun i => z.getD (i % z.length) .nilptr
theorem zcells_r {F : Froz} {z : List V} {zv : Array Value} (hr : VRs F z zv) (k : Nat) (hk : k = 0 ∨ 0 < z.length) : VRs F (zcells z k) ((Array.range k).map (zv[· % zv.size]!)) := by
  refine ⟨by simp [zcells], fun i v hv => ?_⟩
  have hi : i < k := by have := (List.getElem?_eq_some_iff.1 hv).1; simpa [zcells] using this
  have hz : 0 < z.length := by omega
  have hm : i % z.length < z.length := Nat.mod_lt _ hz
  simp only [zcells, List.getElem?_map, List.getElem?_range hi, Option.map_some, Option.some.injEq] at hv
  have hm' : i % zv.size < zv.size := by rw [hr.1]; exact hm
  have := hr.2 (i % z.length) v (by rw [← hv]; simp [hm])
  rw [Array.getD_eq_getD_getElem?]
  simp only [Array.getElem?_map, Array.getElem?_range, hi, if_true, Option.map_some, Option.getD_some]
  rw [getElem!_pos zv _ hm']
  rw [Array.getD_eq_getD_getElem?] at this
  simp only [hr.1] at hm' ⊢
  simpa [hm, hr.1] using this
@[simp] theorem zcells_length (z : List V) (k : Nat) : (zcells z k).length = k := by simp [zcells]
theorem tby_info {T : TypeId} {k : Nat} (h : tby P T = some k) : ∃ i, P.info? T = some i ∧ i.bytes = k := by
  unfold tby at h
  cases hi : P.info? T with
  | none => simp [hi] at h
  | some i => rw [hi] at h; simp at h; exact ⟨i, rfl, h⟩
theorem OpS.buildSlice {T e : TypeId} {len k : Nat} {parts : Array (Nat × Operand)} {z : List V} {ps : List (Nat × V)} {cs : List V} (hop : o.op = .buildSlice T len parts) (hT : tslice P T = some e) (hs : tsz P e = some k) (hz : tzero P e = some z)
    (hl : len * k ≤ 16777216) (hzl : 0 < z.length) (hp : evParts t parts.toList = some ps) (hf : evFill (fun i => some (i * k, k)) (zcells z (len * k)) ps = some cs)
    (hk : WNew h e cs cs.length (.slice · 0 len len) K) : OpS P ρ n o t h K := by
  refine OpS.of_value (by simp [hop]) fun F w tm D ho hfr => ?_
  obtain ⟨zv, h1, h2⟩ := tzero_run (P := P) (w := w) hz
  have hr := evParts_run (ds := D) hfr hp
  have hzz : ∃ zz : Array Value, VRs F (zcells z (len * k)) ((Array.range (len * k)).map (zz[· % zz.size]!)) ∧
      (if len * k = 0 then pure #[] else do pure (← zeroValue e).cells : Sem (Array Value)).run P w = .ok zz w := by
    by_cases h0 : len * k = 0
    · exact ⟨#[], by rw [h0]; exact ⟨by simp [zcells], fun i v hv => by simp [zcells] at hv⟩, by simp [h0]⟩
    · exact ⟨zv.cells, zcells_r (h2 F) _ (.inr hzl), by simp only [if_neg h0, Sem.run_bind, h1, Result.andThen_ok, Sem.run_pure]⟩
  obtain ⟨zz, z1, z2⟩ := hzz
  obtain ⟨ov, o1, o2⟩ := evFill_run (F := F) (pl := fun i => some (i * k, k)) (pl' := fun i => some (i * k, k)) (fun _ _ h => h) ps _ _ _ cs hr z1 hf
  refine ⟨_, .slice (some ⟨w.heap.size, 0, none⟩) len len, _, F, _, ?_, hk w.heap.size ho.fresh, ho.push (OR.new o2), .slice _ _ _ _ (Nat.le_refl _), Trans.push _ _ _ _ _⟩
  have o1' : Instr.fill (fun i => some (i * k, k)) ((Array.range (len * k)).map (zz[· % zz.size]!)) ((parts.map fun (i, x) => (i, Act.eval ⟨tm, D⟩ x)).toList) = some ov := by
    rw [Array.toList_map]; exact o1
  simp only [execOp, hop, Instr.buildSlice, Sem.run_bind, tund_run (tslice_und hT), Result.andThen_ok, tsz_run hs]
  rw [if_neg (by omega)]
  have z2' : ((if len * k = 0 then pure #[] else (fun a => a.cells) <$> zeroValue e) : Sem (Array Value)).run P w = .ok zz w := by
    rw [← z2]; split <;> simp
  simp only [Sem.run_bind, Sem.run_pure, Result.andThen_ok]
  split
  · rename_i h0
    rw [if_pos h0] at z2
    simp only [Sem.run_pure, Result.ok.injEq, and_true] at z2
    subst z2
    simp only [Sem.run_pure, Result.andThen_ok, o1', Sem.run_bind, newRow_run]
  · rename_i h0
    rw [if_neg h0] at z2
    simp only [Sem.run_bind, h1, Result.andThen_ok, Sem.run_pure, Result.ok.injEq, and_true] at z2
    subst z2
    simp only [Sem.run_bind, h1, Sem.run_pure, Result.andThen_ok, o1', newRow_run]
def leafV : V → Bool
  | .agg _ | .tup _ => false
  | _ => true
theorem leaf_r {F : Froz} {v : V} {x : Value} (h : VR F v x) (hl : leafV v = true) : leafX x = true := by
  cases h <;> first | rfl | (simp [leafV] at hl)
def stL (cs : List V) (o : Nat) : List V → List V
  | [v] => cs.set o v
  | vs => putL cs o vs
theorem stL_length {cs : List V} {o : Nat} {vs : List V} (h : o + vs.length ≤ cs.length) : (stL cs o vs).length = cs.length := by
  unfold stL
  split
  · simp
  · exact putL_length h
theorem stL_get {cs : List V} {o : Nat} {vs : List V} (h : o + vs.length ≤ cs.length) (i : Nat) : (stL cs o vs)[i]? = if o ≤ i ∧ i < o + vs.length then vs[i - o]? else cs[i]? := by
  unfold stL
  split
  · rename_i v
    simp only [List.length_singleton] at h ⊢
    rw [List.getElem?_set]
    by_cases h1 : o = i
    · subst h1
      rw [if_pos rfl, if_pos (by omega : o < cs.length), if_pos ⟨Nat.le_refl _, by omega⟩]
      simp
    · rw [if_neg h1, if_neg (by omega)]
  · exact putL_get h i
theorem or_store {F : Froz} {T : TypeId} {cs us : List V} {c : Array Value} {fz : Nat × Nat} {uv : Array Value} {o' : Nat} (hl : cs.length ≤ c.size) (hz : FzOk T c.size fz)
    (hr : ∀ i v, cs[i]? = some v → VR F v (c.getD i undef)) (hu : VRs F us uv) (ho : o' + us.length ≤ cs.length) : OR F (.cells T (stL cs o' us) c.size) (.cells (putA c o' uv.toList) T fz) := by
  have hs : uv.toList.length = us.length := by simpa using hu.1
  have := OR.cells (F := F) T (stL cs o' us) (putA c o' uv.toList) fz (by rw [putA_size, stL_length ho]; exact hl) (by rw [putA_size]; exact hz) (fun i v hv => ?_)
  · rwa [putA_size] at this
  · have hi : i < cs.length := by rw [← stL_length ho]; exact (List.getElem?_eq_some_iff.1 hv).1
    rw [stL_get ho] at hv
    rw [Array.getD_eq_getD_getElem?, putA_get]
    by_cases hc : o' ≤ i ∧ i < o' + us.length
    · rw [if_pos hc] at hv
      rw [if_pos ⟨hc.1, by rw [hs]; exact hc.2, by omega⟩]
      obtain ⟨x, hx, r⟩ := vrs_get hu hv
      rw [Array.getElem?_toList, hx]; exact r
    · rw [if_neg hc] at hv
      rw [if_neg (fun h => hc ⟨h.1, by rw [← hs]; exact h.2.1⟩)]
      have := hr i v hv
      rwa [Array.getD_eq_getD_getElem?] at this
def WStore (P : Program) (h : Hp) (T : TypeId) (p v : V) (K : V → Hp → Prop) : Prop :=
  match p with
  | .ptr b o => match hget h b with
    | some (.cells T' cs nn) => tsz P T = some (vcells v).length ∧ o + (vcells v).length ≤ cs.length ∧ (vcells v).all leafV = true ∧ K (.tup []) (hset h b (.cells T' (stL cs o (vcells v)) nn))
    | _ => False
  | _ => False
theorem OpS.store {T : TypeId} {a x : Operand} {p v : V} (hop : o.op = .store T a x) (ha : evO t a = some p) (hx : evO t x = some v) (hk : WStore P h T p v K) : OpS P ρ n o t h K := by
  refine OpS.of_skip (by simp [hop]) fun F w tm D ho hf => ?_
  unfold WStore at hk
  split at hk
  · rename_i b o'
    split at hk
    · rename_i T' cs nn hg
      obtain ⟨h1, h2, h3, hk⟩ := hk
      obtain ⟨c, fz, hc, hl, rfl, hz, hr⟩ := own_cells ho hg
      have hp := (evO_r (ds := D) hf ha).ptr_inv
      have hv := evO_r (ds := D) hf hx
      have hu := vr_cells hv
      refine ⟨_, F, w.putObj b (.cells (putA c o' (Act.eval ⟨tm, D⟩ x).cells.toList) T' fz), ?_, hk, ho.put (hget_ns hg) (or_store hl hz hr hu h2), Trans.put _ _ (hget_ns hg)⟩
      have hst := run_storeCells (P := P) (b := b) (T := T') (fz := fz) (Act.eval ⟨tm, D⟩ x).cells.toList w c o' 0 hc (by have := hu.1; simp only [Nat.add_zero, Array.length_toList]; omega) hz (fun y hy => by
        obtain ⟨i, hi⟩ := List.getElem?_of_mem hy
        have hi' : i < (vcells v).length := by
          have := (List.getElem?_eq_some_iff.1 hi).1
          rw [Array.length_toList, hu.1] at this; exact this
        have hv' : (vcells v)[i]? = some (vcells v)[i] := by simp [hi']
        obtain ⟨x', hx', r⟩ := vrs_get hu hv'
        rw [Array.getElem?_toList, hx'] at hi
        simp only [Option.some.injEq] at hi; subst hi
        exact leaf_r r (by simp only [List.all_eq_true] at h3; exact h3 _ (List.getElem_mem _)))
      have e1 : (Act.eval ⟨tm, D⟩ x).cells.size = (vcells v).length := hu.1
      simp only [execOp, hop, hp, Instr.storeAt, Instr.sureAddr, Sem.run_bind, Sem.run_pure, Result.andThen_ok, storeVar, tsz_run h1, e1, ne_eq, not_true_eq_false, if_false, hst, Nat.add_zero]
    · exact hk.elim
  · exact hk.elim
end Go.Fw
