/- A part of the proof: FwL -/
import Derived.Test.YtmohgegpcfkooaaGreatDoorFwK
set_option linter.all false
set_option linter.unusedSectionVars false
set_option linter.unusedVariables false
set_option linter.unusedSimpArgs false
namespace Go.Fw
variable [Gl]
variable {P : Program} {ρ : Option Nat} {n : Nat} {o : Oper} {t : Fr} {h : Hp} {K : V → Hp → Prop}
theorem OpS.append_full {sT e xT : TypeId} {a b : Operand} {k by_ m len p o' nn : Nat} {T : TypeId} {z us cs : List V} {x : V} (hop : IsApp o sT xT a b) (he : ElemOk P sT e k by_ z) (hxT : appT P xT = true) (ha : evO t a = some (.slice p o' len len)) (hb : evO t b = some x)
    (hg : hget h p = some (.cells T cs nn)) (hl : o' + len * k ≤ cs.length) (hs : evSrc h k x = some (us, m)) (hm : 0 < m) (hbd : (2 * (len + m) + 192) * by_ ≤ 281474976710656)
    (hk : ∀ q N, q ∉ h.ns → len + m ≤ N → K (.slice q 0 (len + m) N) ((q, .cells e ((cs.drop o').take (len * k) ++ us) (N * k)) :: h)) : OpS P ρ n o t h K := by
  refine OpS.of_value hop.defer fun F w tm D ho hf => ?_
  have ea := (evO_r (ds := D) hf ha).slice_inv
  have ex := evO_r (ds := D) hf hb
  obtain ⟨r1, r2⟩ := append_run (P := P) ho he hxT (base := some ⟨p, o', none⟩) (len := len) (cap := len) ex hs (ty := o.type)
  obtain ⟨ov, hov, hor⟩ := own_first (P := P) (cap := len) ho hg hl (w.drawn + 1)
  obtain ⟨N, arr, hN, hor', hrun⟩ := r2 (by omega) hbd ov _ hov hor (by simp; omega)
  refine ⟨.slice w.heap.size 0 (len + m) N, _, _, F, _, hop.exec (by rw [ea]; exact hrun), hk w.heap.size N ho.fresh hN, ?_, .slice _ _ _ _ hN, ?_⟩
  · exact (ho.drawn (w.drawn + 1)).push hor'
  · exact (Trans.drawn F h w (w.drawn + 1)).trans (Trans.push F h { w with drawn := w.drawn + 1 } _ _)
structure IsCopy (o : Oper) (dT xT : TypeId) (a b : Operand) : Prop where
  op : o.op = .call { callee := .builtin .copy, args := #[a, b], argTypes := #[dT, xT] }
theorem IsCopy.exec {w w' : World} {sT xT : TypeId} {a b : Operand} (h : IsCopy o sT xT a b) {σ : Operand → Value} {r : Value} (hr : (Builtin.copy_ #[sT, xT] o.type #[σ a, σ b]).run P w = .ok r w') :
    (execOp σ o).run P w = .ok (.value r) w' := by
  simp [execOp, h.op, resolve, invoke, builtin, Sem.run_bind, hr]
theorem vrs_leaf {F : Froz} {us : List V} {uv : Array Value} (hu : VRs F us uv) (hlf : us.all leafV = true) : ∀ y ∈ uv.toList, leafX y = true := fun y hy => by
  obtain ⟨i, hi⟩ := List.getElem?_of_mem hy
  have hi' : i < us.length := by
    have := (List.getElem?_eq_some_iff.1 hi).1
    rw [Array.length_toList, hu.1] at this; exact this
  have hv' : us[i]? = some us[i] := by simp [hi']
  obtain ⟨x', hx', r⟩ := vrs_get hu hv'
  rw [Array.getElem?_toList, hx'] at hi
  simp only [Option.some.injEq] at hi; subst hi
  exact leaf_r r (by simp only [List.all_eq_true] at hlf; exact hlf _ (List.getElem_mem _))
theorem wrap64_fit {i : Int} (h0 : 0 ≤ i) (h1 : i ≤ 9223372036854775807) : IntKind.i64.wrap i = i := by
  simp only [IntKind.wrap, IntKind.signed, IntKind.bits]
  simp [Int.bmod]
  omega
theorem OpS.makeSlice {T e : TypeId} {a b : Operand} {k by_ l c : Nat} {k1 k2 : IntKind} {z : List V} (hop : o.op = .makeSlice T a b) (he : ElemOk P T e k by_ z) (ha : evO t a = some (.int k1 (l : Nat))) (hb : evO t b = some (.int k2 (c : Nat))) (hlc : l ≤ c)
    (hc : c * by_ ≤ 281474976710656) (hk : WNew h e (zcells z (c * k)) (c * k) (.slice · 0 l c) K) : OpS P ρ n o t h K := by
  refine OpS.of_value (by simp [hop]) fun F w tm D ho hf => ?_
  have ea := (evO_r (ds := D) hf ha).int_inv
  have eb := (evO_r (ds := D) hf hb).int_inv
  obtain ⟨zv, h1, h2⟩ := tzero_run (P := P) (w := w) he.zero
  obtain ⟨i, hi, hib⟩ := tby_info he.bytes
  have hti : (typeInfo e).run P w = .ok i w := by simp [typeInfo, Sem.run_bind, hi]
  have hbp := he.bpos
  have hcb : c ≤ c * by_ := Nat.le_mul_of_pos_right _ hbp
  have hwl : IntKind.i64.wrap (l : Int) = l := wrap64_fit (by omega) (by omega)
  have hwc : IntKind.i64.wrap (c : Int) = c := wrap64_fit (by omega) (by omega)
  have hz0 : 0 < z.length := by rw [he.zl]; exact he.pos
  have hzz : ∃ zz : Array Value, VRs F (zcells z (c * k)) ((Array.range (c * k)).map (zz[· % zz.size]!)) ∧
      (if c * k = 0 then pure #[] else do pure (← zeroValue e).cells : Sem (Array Value)).run P w = .ok zz w := by
    by_cases h0 : c * k = 0
    · exact ⟨#[], by rw [h0]; exact ⟨by simp [zcells], fun i v hv => by simp [zcells] at hv⟩, by simp [h0]⟩
    · exact ⟨zv.cells, zcells_r (h2 F) _ (.inr hz0), by simp only [if_neg h0, Sem.run_bind, h1, Result.andThen_ok, Sem.run_pure]⟩
  obtain ⟨zz, z1, z2⟩ := hzz
  have hor : OR F (.cells e (zcells z (c * k)) (c * k)) (.cells ((Array.range (c * k)).map (zz[· % zz.size]!)) e) := by
    have := OR.new (T := e) z1
    simpa using this
  refine ⟨.slice w.heap.size 0 l c, .slice (some ⟨w.heap.size, 0, none⟩) l c, _, F, _, ?_, hk w.heap.size ho.fresh, ho.push hor, .slice _ _ _ _ hlc, Trans.push _ _ _ _ _⟩
  have hask : ∀ q, (askRoom q).run P w = .ok () w := by
    intro q
    unfold askRoom
    split
    · simp [mark, Sem.run]
    · simp
  have hcond : ¬ (((decide ((c : Int) < 0) || decide ((i.bytes : Int) * (c : Int) > 2 ^ 48)) || decide ((l : Int) < 0) || decide ((l : Int) > (c : Int))) = true) := by
    rw [hib]
    have : ((by_ : Int) * (c : Int)) = ((c * by_ : Nat) : Int) := by rw [Int.natCast_mul]; exact Int.mul_comm _ _
    simp only [Bool.or_eq_true, decide_eq_true_eq, not_or]
    rw [this]
    refine ⟨⟨⟨by omega, by omega⟩, by omega⟩, by omega⟩
  simp only [execOp, hop, ea, eb, Instr.makeSlice, Sem.run_bind, tund_run (tslice_und he.sl), Result.andThen_ok, asInt, asIntOf, Sem.run_pure, hti, hwl, hwc]
  rw [if_neg hcond]
  simp only [Sem.run_bind, Sem.run_pure, Result.andThen_ok, hask, tsz_run he.sz, Int.toNat_natCast]
  split
  · rename_i h0
    rw [if_pos h0] at z2
    simp only [Sem.run_pure, Result.ok.injEq, and_true] at z2
    subst z2
    simp only [Sem.run_pure, Result.andThen_ok, Sem.run_bind, newRow_run]
  · rename_i h0
    rw [if_neg h0] at z2
    simp only [Sem.run_bind, h1, Result.andThen_ok, Sem.run_pure, Result.ok.injEq, and_true] at z2
    subst z2
    simp only [Sem.run_bind, h1, Sem.run_pure, Result.andThen_ok, newRow_run]
def byteCells (s : List UInt8) : List V := s.map fun b => .int .u8 b.toNat
theorem OpS.toBytes {sT dT e : TypeId} {a : Operand} {s : List UInt8} (hop : o.op = .convert sT dT a) (hs : tisstr P sT = true) (hd : tslice P dT = some e) (he : tint P e = some .u8) (ha : evO t a = some (.str s))
    (hk : ∀ q N, q ∉ h.ns → s.length ≤ N → K (.slice q 0 s.length N) ((q, .cells e (byteCells s) N) :: h)) (h5 : e = 5 := by rfl) : OpS P ρ n o t h K := by
  refine OpS.of_value (by simp [hop]) fun F w tm D ho hf => ?_
  have ea := (evO_r (ds := D) hf ha).str_inv
  let N := (Question.appendCap s.length 0 e).cut (w.tape w.drawn (.appendCap s.length 0 e))
  have hN : s.length ≤ N := by show s.length ≤ s.length + _; omega
  let arr : Array Value := ((⟨s.toArray⟩ : ByteArray).data.map fun b => .int .u8 b.toNat) ++ Array.replicate (N - s.length) (.int .u8 0)
  have hasz : arr.size = N := by simp [arr]; omega
  let w1 : World := ({ w with drawn := w.drawn + 1 } : World).alloc (.cells arr e)
  have hor0 : ∀ fz : Nat × Nat, (FzOk e arr.size fz) → OR F (.cells e (byteCells s) N) (.cells arr e fz) := by
    intro fz hfz
    have := OR.cells (F := F) e (byteCells s) arr fz (by rw [hasz]; simp [byteCells]; exact hN) hfz (fun i v hv => ?_)
    · rwa [hasz] at this
    · simp only [byteCells, List.getElem?_map] at hv
      obtain ⟨b, hb, rfl⟩ := Option.map_eq_some_iff.1 hv
      have hi : i < s.length := (List.getElem?_eq_some_iff.1 hb).1
      rw [Array.getD_eq_getD_getElem?]
      simp only [arr]
      rw [Array.getElem?_append_left (by simpa using hi)]
      simp only [Array.getElem?_map, List.getElem?_toArray, hb, Option.map_some, Option.getD_some]
      exact .int _ _
  have hor := hor0 (N, N + 1) ⟨fun i hi h => by simp only at h; have := hi.resolve_right (fun h2 => h2.2 h5); omega, by simp⟩
  have hch : (choose (.appendCap s.length 0 e)).run P w = .ok N { w with drawn := w.drawn + 1 } := by
    simp [choose, Sem.run, Question.forced, N]
  have hfrz : (markStringish ⟨w.heap.size, 0, none⟩).run P w1 = .ok () (w1.putObj w.heap.size (.cells arr e (N, N + 1))) := by
    have hb : w1.heap[w.heap.size]? = some (.cells arr e) := World.alloc_heap_new { w with drawn := w.drawn + 1 } _
    simp only [markStringish, shape, freeze, Sem.run_bind, Sem.run, World.shape?, hb, Result.andThen_ok]
    congr 1
    unfold World.freeze World.putObj
    simp only [Nat.reduceEqDiff, if_false]
    congr 1
    apply Array.ext_getElem?
    intro i
    rw [Array.getElem?_modify, Array.getElem?_setIfInBounds]
    have hlt := (Array.getElem?_eq_some_iff.1 hb).1
    by_cases h : w.heap.size = i
    · subst h
      rw [if_pos rfl, hb]
      simp [hlt, hasz]
    · simp [h]
  refine ⟨.slice w.heap.size 0 s.length N, .slice (some ⟨w.heap.size, 0, none⟩) s.length N, _, F, w1.putObj w.heap.size (.cells arr e (N, N + 1)), ?_, hk w.heap.size N ho.fresh hN, ?_, .slice _ _ _ _ hN, ?_⟩
  · simp only [execOp, hop, ea, convert, Sem.run_bind, tund_run (tisstr_und hs), tund_run (tslice_und hd), Result.andThen_ok, tund_run (tint_und he), Conv.stringToBytes, ba_size, hch, newRow_run, Sem.run_pure]
    have : (markStringish { block := w.heap.size, off := 0 }).run P ((({ w with drawn := w.drawn + 1 } : World).alloc (.cells arr e))) = .ok () (w1.putObj w.heap.size (.cells arr e (N, N + 1))) := hfrz
    simp only [arr] at this
    simp only [this, Result.andThen_ok]
    rfl
  · have ho1 := (ho.drawn (w.drawn + 1)).push (o := .cells e (byteCells s) N) (x := .cells arr e) (hor0 (0, 0) (FzOk.zero _ _))
    have := ho1.put (b := w.heap.size) (o' := .cells e (byteCells s) N) (by simp) hor
    have e1 : hset ((w.heap.size, AObj.cells e (byteCells s) N) :: h) w.heap.size (.cells e (byteCells s) N) = (w.heap.size, .cells e (byteCells s) N) :: h := by simp [hset]
    rw [show ({ w with drawn := w.drawn + 1 } : World).heap.size = w.heap.size from rfl, e1] at this
    exact this
  · have h1 := (Trans.drawn F h w (w.drawn + 1)).trans (Trans.push F h { w with drawn := w.drawn + 1 } (.cells e (byteCells s) N) (.cells arr e))
    have h2 := Trans.put (F := F) (h := (w.heap.size, .cells e (byteCells s) N) :: h) (w := w1) (b := w.heap.size) (.cells e (byteCells s) N) (.cells arr e (N, N + 1)) (by simp)
    have e1 : hset ((w.heap.size, AObj.cells e (byteCells s) N) :: h) w.heap.size (.cells e (byteCells s) N) = (w.heap.size, .cells e (byteCells s) N) :: h := by simp [hset]
    rw [e1] at h2
    exact h1.trans h2
end Go.Fw
