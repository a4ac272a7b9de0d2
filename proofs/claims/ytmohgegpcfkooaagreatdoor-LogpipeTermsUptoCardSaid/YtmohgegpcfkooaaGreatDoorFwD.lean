/- A part of the proof: FwD -/
import Derived.Test.YtmohgegpcfkooaaGreatDoorFwC
set_option linter.all false
set_option linter.unusedSectionVars false
set_option linter.unusedVariables false
set_option linter.unusedSimpArgs false
namespace Go.Fw
variable [Gl]
def tagg (P : Program) (T : TypeId) : Option Bool := (P.underlying T).map fun | .struct _ | .array _ _ => true | _ => false
def tsz (P : Program) (T : TypeId) : Option Nat := (P.info? T).map (·.size)
def tby (P : Program) (T : TypeId) : Option Nat := (P.info? T).map (·.bytes)
def tzero (P : Program) (T : TypeId) : Option (List V) := ((P.info? T).bind (·.zero)).bind fun z => ofLeaves z.cells.toList
def tzv (P : Program) (T : TypeId) : Option V := ((P.info? T).bind (·.zero)).bind ofConst
def tfld (P : Program) (T : TypeId) (i : Nat) : Option (Nat × TypeId) := match P.underlying T with
  | some (.struct fs) => (fs[i]?).map fun f => (f.offset, f.type)
  | _ => none
def tslice (P : Program) (T : TypeId) : Option TypeId := match P.underlying T with
  | some (.slice e) => some e
  | _ => none
def tarr (P : Program) (T : TypeId) : Option (Nat × TypeId) := match P.underlying T with
  | some (.array n e) => some (n, e)
  | _ => none
def tisstr (P : Program) (T : TypeId) : Bool := match P.underlying T with
  | some .string => true
  | _ => false
def tint (P : Program) (T : TypeId) : Option IntKind := match P.underlying T with
  | some (.int k) => some k
  | _ => none
section
variable {P : Program} {w : World}
theorem tund_run {T : TypeId} {d : TypeDesc} (h : P.underlying T = some d) : (underlying T).run P w = .ok d w := by
  simp [underlying, Sem.run_bind, h]
theorem tagg_run {T : TypeId} {b : Bool} (h : tagg P T = some b) : (isAgg T).run P w = .ok b w := by
  unfold tagg at h
  cases hu : P.underlying T with
  | none => simp [hu] at h
  | some d =>
    rw [hu] at h
    simp only [isAgg, Sem.run_bind, tund_run hu, Result.andThen]
    cases d <;> simp_all
theorem tsz_run {T : TypeId} {k : Nat} (h : tsz P T = some k) : (sizeOf T).run P w = .ok k w := by
  unfold tsz at h
  cases hi : P.info? T with
  | none => simp [hi] at h
  | some i =>
    rw [hi] at h
    simp only [Option.map_some, Option.some.injEq] at h
    simp [sizeOf, typeInfo, Sem.run_bind, hi, h]
theorem tzero_run {T : TypeId} {cs : List V} (h : tzero P T = some cs) : ∃ z, (zeroValue T).run P w = .ok z w ∧ ∀ F, VRs F cs z.cells := by
  unfold tzero at h
  cases hi : P.info? T with
  | none => simp [hi] at h
  | some i =>
    rw [hi] at h
    simp only [Option.bind_some] at h
    cases hz : i.zero with
    | none => simp [hz] at h
    | some z =>
      rw [hz] at h
      simp only [Option.bind_some] at h
      refine ⟨z, by simp [zeroValue, typeInfo, Sem.run_bind, hi, hz], fun F => ?_⟩
      obtain ⟨a, b⟩ := ofLeaves_r (F := F) h
      exact ⟨by rw [a]; simp, fun i v hv => by rw [← getD_toList]; exact b i v hv⟩
theorem tzv_run {T : TypeId} {v : V} (h : tzv P T = some v) : ∃ z, (zeroValue T).run P w = .ok z w ∧ ∀ F, VR F v z := by
  unfold tzv at h
  cases hi : P.info? T with
  | none => simp [hi] at h
  | some i =>
    rw [hi] at h
    simp only [Option.bind_some] at h
    cases hz : i.zero with
    | none => simp [hz] at h
    | some z =>
      rw [hz] at h
      simp only [Option.bind_some] at h
      exact ⟨z, by simp [zeroValue, typeInfo, Sem.run_bind, hi, hz], fun F => ofConst_r h⟩
theorem tfld_und {T : TypeId} {i o : Nat} {u : TypeId} (h : tfld P T i = some (o, u)) : ∃ fs f, P.underlying T = some (.struct fs) ∧ fs[i]? = some f ∧ f.offset = o ∧ f.type = u := by
  unfold tfld at h
  split at h
  · rename_i fs hu
    cases hf : fs[i]? with
    | none => simp [hf] at h
    | some f =>
      rw [hf] at h
      simp only [Option.map_some, Option.some.injEq, Prod.mk.injEq] at h
      exact ⟨fs, f, hu, hf, h.1, h.2⟩
  · simp at h
theorem tslice_und {T e : TypeId} (h : tslice P T = some e) : P.underlying T = some (.slice e) := by
  unfold tslice at h; split at h <;> simp_all
theorem tarr_und {T e : TypeId} {n : Nat} (h : tarr P T = some (n, e)) : P.underlying T = some (.array n e) := by
  unfold tarr at h; split at h <;> simp_all
theorem tisstr_und {T : TypeId} (h : tisstr P T = true) : P.underlying T = some .string := by
  unfold tisstr at h; split at h <;> simp_all
theorem tint_und {T : TypeId} {k : IntKind} (h : tint P T = some k) : P.underlying T = some (.int k) := by
  unfold tint at h; split at h <;> simp_all
end
def ldAt (P : Program) (T : TypeId) (cs : List V) (o : Nat) : Option V :=
  match tagg P T with
  | some true => match tsz P T with
    | some k => if o + k ≤ cs.length then some (.agg ((cs.drop o).take k)) else none
    | none => none
  | some false => cs[o]?
  | none => none
theorem ldAt_run {P : Program} {F : Froz} {w : World} {a : Addr} {T : TypeId} {cs : List V} {o : Nat} {v : V} (g : Nat → Value)
    (h1 : ∀ i, i < cs.length → w.cell? (a.add i) = some (g i)) (h2 : ∀ i v, cs[i]? = some v → VR F v (g i)) (hv : ldAt P T cs o = some v) :
    ∃ x, (loadVar T (a.add o)).run P w = .ok x w ∧ VR F v x := by
  unfold ldAt at hv
  split at hv
  · rename_i ht
    split at hv
    · rename_i k hk
      split at hv
      · rename_i hl
        simp only [Option.some.injEq] at hv
        subst hv
        refine ⟨.agg ((List.range k).map fun i => g (o + i)).toArray, ?_, ?_⟩
        · simp only [loadVar, Sem.run_bind, tagg_run ht, tsz_run hk, Result.andThen]
          rw [if_pos trivial]
          simp only [Sem.run_bind, tsz_run hk, Result.andThen]
          rw [run_loadCells (fun i => g (o + i)) (fun j hj => by rw [add_add]; exact h1 (o + j) (by omega))]
          simp [Sem.run_pure]
        · refine .agg _ _ (by simp; omega) fun i u hu => ?_
          have hi : i < k := by
            have := (List.getElem?_eq_some_iff.1 hu).1
            simp at this; omega
          rw [List.getElem?_take_of_lt hi, List.getElem?_drop] at hu
          have := h2 _ _ hu
          simpa [hi] using this
      · simp at hv
    · simp at hv
  · rename_i ht
    have hi : o < cs.length := (List.getElem?_eq_some_iff.1 hv).1
    refine ⟨g o, ?_, h2 o v hv⟩
    simp only [loadVar, Sem.run_bind, tagg_run ht, Result.andThen]
    rw [if_neg (by simp)]
    exact run_load_cell (h1 o hi)
  · simp at hv
def evLoad (P : Program) (h : Hp) (T : TypeId) : V → Option V
  | .ptr b o => match hget h b with
    | some (.cells _ cs _) => ldAt P T cs o
    | _ => none
  | .fptr cs o => ldAt P T cs o
  | _ => none
theorem own_cells {F : Froz} {h : Hp} {w : World} (ho : Own F h w) {b : Nat} {T : TypeId} {cs : List V} {n : Nat} (hg : hget h b = some (.cells T cs n)) :
    ∃ (c : Array Value) (fz : Nat × Nat), w.heap[b]? = some (.cells c T fz) ∧ cs.length ≤ c.size ∧ n = c.size ∧ (FzOk T c.size fz) ∧
      ∀ i v, cs[i]? = some v → VR F v (c.getD i undef) := by
  obtain ⟨x, hx, r⟩ := ho.get hg
  cases r with
  | cells _ _ c fz hl hz hr => exact ⟨c, fz, hx, hl, rfl, hz, hr⟩
theorem evLoad_run {P : Program} {F : Froz} {h : Hp} {w : World} (ho : Own F h w) {T : TypeId} {p v : V} {x : Value} (hp : VR F p x) (hv : evLoad P h T p = some v) :
    ∃ y, (Instr.loadAt T x).run P w = .ok y w ∧ VR F v y := by
  unfold evLoad at hv
  split at hv
  · rename_i b o
    obtain rfl := hp.ptr_inv
    split at hv
    · rename_i T' cs n hg
      obtain ⟨c, fz, hx, hl, _, _, hr⟩ := own_cells ho hg
      have := ldAt_run (P := P) (F := F) (w := w) (a := ⟨b, 0, none⟩) (T := T) (cs := cs) (o := o) (v := v) (fun i => c.getD i undef)
        (fun i hi => by
          rw [add_mk, cell_of_block hx, Nat.zero_add]
          have : i < c.size := by omega
          simp [this])
        hr hv
      rw [add_mk, Nat.zero_add] at this
      simpa [Instr.loadAt, Instr.sureAddr, Sem.run_bind] using this
    · simp at hv
  · rename_i cs o
    obtain ⟨a, g, rfl, h1, h2⟩ := hp.fptr_inv
    have := ldAt_run (P := P) (F := F) (w := w) (a := a) (T := T) (cs := cs) (o := o) (v := v) g (fun i hi => fcell_cell ho (h1 i hi)) h2 hv
    simpa [Instr.loadAt, Instr.sureAddr, Sem.run_bind] using this
  · simp at hv
def evField (P : Program) (s : TypeId) (i : Nat) : V → Option V
  | .ptr b o => match tfld P s i with
    | some (off, u) => match tsz P u with
      | some (_ + 1) => some (.ptr b (o + off))
      | _ => none
    | none => none
  | .fptr cs o => match tfld P s i with
    | some (off, u) => match tsz P u with
      | some (_ + 1) => some (.fptr cs (o + off))
      | _ => none
    | none => none
  | _ => none
theorem evField_run {P : Program} {F : Froz} {w : World} {s : TypeId} {i : Nat} {p v : V} {x : Value} (hp : VR F p x) (hv : evField P s i p = some v) :
    ∃ y, (Instr.fieldAt s x i).run P w = .ok y w ∧ VR F v y := by
  unfold evField at hv
  split at hv
  · rename_i b o
    obtain rfl := hp.ptr_inv
    split at hv
    · rename_i off u hf
      obtain ⟨fs, f, hu, hfi, rfl, rfl⟩ := tfld_und hf
      split at hv
      · rename_i k hk
        simp only [Option.some.injEq] at hv
        subst hv
        refine ⟨.pointer (some ⟨b, o + f.offset, none⟩), ?_, .ptr _ _⟩
        simp [Instr.fieldAt, Instr.sureAddr, Sem.run_bind, tund_run hu, hfi, fieldPlace, tsz_run hk, add_mk]
      · simp at hv
    · simp at hv
  · rename_i cs o
    obtain ⟨a, g, rfl, h1, h2⟩ := hp.fptr_inv
    split at hv
    · rename_i off u hf
      obtain ⟨fs, f, hu, hfi, rfl, rfl⟩ := tfld_und hf
      split at hv
      · rename_i k hk
        simp only [Option.some.injEq] at hv
        subst hv
        refine ⟨.pointer (some (a.add (o + f.offset))), ?_, .fptr cs _ a g h1 h2⟩
        simp [Instr.fieldAt, Instr.sureAddr, Sem.run_bind, tund_run hu, hfi, fieldPlace, tsz_run hk, add_add]
      · simp at hv
    · simp at hv
  · simp at hv
def evIndexAddr (P : Program) (T : TypeId) : V → V → Option V
  | .slice b o len cap, .int _ i => match tslice P T with
    | some e => match tsz P e with
      | some k => if 0 ≤ i ∧ i < (len : Int) then some (.ptr b (o + i.toNat * k)) else none
      | none => none
    | none => none
  | .fslice cs len, .int _ i => match tslice P T with
    | some e => match tsz P e with
      | some k => if 0 ≤ i ∧ i < (len : Int) then some (.fptr cs (i.toNat * k)) else none
      | none => none
    | none => none
  | .ptr b o, .int _ i => match tarr P T with
    | some (len, e) => match tsz P e with
      | some k => if 0 ≤ i ∧ i < (len : Int) then some (.ptr b (o + i.toNat * k)) else none
      | none => none
    | none => none
  | .fptr cs o, .int _ i => match tarr P T with
    | some (len, e) => match tsz P e with
      | some k => if 0 ≤ i ∧ i < (len : Int) then some (.fptr cs (o + i.toNat * k)) else none
      | none => none
    | none => none
  | _, _ => none
theorem evIndexAddr_run {P : Program} {F : Froz} {w : World} {T : TypeId} {p q v : V} {x y : Value} (hp : VR F p x) (hq : VR F q y) (hv : evIndexAddr P T p q = some v) :
    ∃ z, (Instr.indexAt T x y).run P w = .ok z w ∧ VR F v z := by
  unfold evIndexAddr at hv
  split at hv
  · rename_i b o len cap k i
    obtain rfl := hp.slice_inv
    obtain rfl := hq.int_inv
    split at hv
    · rename_i e he
      split at hv
      · rename_i k hk
        split at hv
        · rename_i hi
          simp only [Option.some.injEq] at hv
          subst hv
          refine ⟨.pointer (some ⟨b, o + i.toNat * k, none⟩), ?_, .ptr _ _⟩
          simp [Instr.indexAt, asIntOf, Sem.run_bind, tund_run (tslice_und he), hi.1, hi.2, tsz_run hk, add_mk]
        · simp at hv
      · simp at hv
    · simp at hv
  · rename_i cs len k i
    obtain rfl := hq.int_inv
    rcases hp.fslice_inv with ⟨rfl, rfl, rfl⟩ | ⟨a, cap, g, rfl, hl, h1, h2⟩
    · exfalso
      split at hv
      · split at hv
        · split at hv
          · rename_i hi; omega
          · simp at hv
        · simp at hv
      · simp at hv
    split at hv
    · rename_i e he
      split at hv
      · rename_i k hk
        split at hv
        · rename_i hi
          simp only [Option.some.injEq] at hv
          subst hv
          refine ⟨.pointer (some (a.add (i.toNat * k))), ?_, .fptr cs _ a g h1 h2⟩
          simp [Instr.indexAt, asIntOf, Sem.run_bind, tund_run (tslice_und he), hi.1, hi.2, tsz_run hk]
        · simp at hv
      · simp at hv
    · simp at hv
  · rename_i b o k i
    obtain rfl := hp.ptr_inv
    obtain rfl := hq.int_inv
    split at hv
    · rename_i len e he
      split at hv
      · rename_i k hk
        split at hv
        · rename_i hi
          simp only [Option.some.injEq] at hv
          subst hv
          refine ⟨.pointer (some ⟨b, o + i.toNat * k, none⟩), ?_, .ptr _ _⟩
          simp [Instr.indexAt, asIntOf, Instr.sureAddr, Sem.run_bind, tund_run (tarr_und he), hi.1, hi.2, tsz_run hk, add_mk]
        · simp at hv
      · simp at hv
    · simp at hv
  · rename_i cs o k i
    obtain ⟨a, g, rfl, h1, h2⟩ := hp.fptr_inv
    obtain rfl := hq.int_inv
    split at hv
    · rename_i len e he
      split at hv
      · rename_i k hk
        split at hv
        · rename_i hi
          simp only [Option.some.injEq] at hv
          subst hv
          refine ⟨.pointer (some (a.add (o + i.toNat * k))), ?_, .fptr cs _ a g h1 h2⟩
          simp [Instr.indexAt, asIntOf, Instr.sureAddr, Sem.run_bind, tund_run (tarr_und he), hi.1, hi.2, tsz_run hk, add_add]
        · simp at hv
      · simp at hv
    · simp at hv
  · simp at hv
def evPart (P : Program) (u : TypeId) (cs : List V) (off : Nat) : Option V :=
  match tagg P u with
  | some true => match tsz P u with
    | some k => if off + k ≤ cs.length then some (.agg ((cs.drop off).take k)) else none
    | none => none
  | some false => cs[off]?
  | none => none
theorem vrs_get {F : Froz} {cs : List V} {vs : Array Value} (h : VRs F cs vs) {i : Nat} {v : V} (hv : cs[i]? = some v) : ∃ x, vs[i]? = some x ∧ VR F v x := by
  have hi : i < cs.length := (List.getElem?_eq_some_iff.1 hv).1
  have hi' : i < vs.size := by rw [h.1]; exact hi
  refine ⟨vs[i], by simp [hi'], ?_⟩
  have := h.2 i v hv
  simpa [hi'] using this
theorem evPart_run {P : Program} {F : Froz} {w : World} {u : TypeId} {cs : List V} {vs : Array Value} {off : Nat} {v : V} (hr : VRs F cs vs) (hv : evPart P u cs off = some v) :
    ∃ x, (part u vs off).run P w = .ok x w ∧ VR F v x := by
  unfold evPart at hv
  split at hv
  · rename_i ht
    split at hv
    · rename_i k hk
      split at hv
      · rename_i hl
        simp only [Option.some.injEq] at hv
        subst hv
        refine ⟨.agg (vs.extract off (off + k)), ?_, ?_⟩
        · simp only [part, Sem.run_bind, tagg_run ht, Result.andThen]
          rw [if_pos trivial]
          simp [Sem.run_bind, tsz_run hk]
        · have hs := hr.1
          refine .agg _ _ (by simp; omega) fun i u hu => ?_
          have hi : i < k := by
            have := (List.getElem?_eq_some_iff.1 hu).1
            simp at this; omega
          rw [List.getElem?_take_of_lt hi, List.getElem?_drop] at hu
          obtain ⟨x, hx, r⟩ := vrs_get hr hu
          have e : (vs.extract off (off + k)).getD i undef = x := by
            have h1 : i < (vs.extract off (off + k)).size := by simp; omega
            rw [Array.getD_eq_getD_getElem?, Array.getElem?_extract_of_lt (by omega)]
            exact (Array.getElem?_eq_some_iff.1 hx).2
          rw [e]; exact r
      · simp at hv
    · simp at hv
  · rename_i ht
    obtain ⟨x, hx, r⟩ := vrs_get hr hv
    refine ⟨x, ?_, r⟩
    simp only [part, Sem.run_bind, tagg_run ht, Result.andThen]
    rw [if_neg (by simp)]
    simp [hx]
  · simp at hv
def evFieldV (P : Program) (T : TypeId) (i : Nat) : V → Option V
  | .agg cs => match tfld P T i with
    | some (off, u) => evPart P u cs off
    | none => none
  | _ => none
theorem evFieldV_run {P : Program} {F : Froz} {w : World} {T : TypeId} {i : Nat} {p v : V} {x : Value} (hp : VR F p x) (hv : evFieldV P T i p = some v) :
    ∃ y, (Instr.field T x i).run P w = .ok y w ∧ VR F v y := by
  unfold evFieldV at hv
  split at hv
  · rename_i cs
    obtain ⟨vs, rfl, hr⟩ := hp.agg_inv
    split at hv
    · rename_i off u hf
      obtain ⟨fs, f, hu, hfi, rfl, rfl⟩ := tfld_und hf
      obtain ⟨y, hy, r⟩ := evPart_run (P := P) (w := w) hr hv
      exact ⟨y, by simp [Instr.field, Sem.run_bind, tund_run hu, hfi, asAgg, hy], r⟩
    · simp at hv
  · simp at hv
def evIndexV (P : Program) (T : TypeId) : V → V → Option V
  | .str s, .int _ i => if tisstr P T = true ∧ 0 ≤ i then (s[i.toNat]?).map fun b => .int .u8 b.toNat else none
  | .agg cs, .int _ i => match tarr P T with
    | some (len, e) => match tsz P e with
      | some k => if 0 ≤ i ∧ i < (len : Int) then evPart P e cs (i.toNat * k) else none
      | none => none
    | none => none
  | _, _ => none
theorem ba_get (s : List UInt8) (i : Nat) : (⟨s.toArray⟩ : ByteArray)[i]? = s[i]? := by
  by_cases h : i < s.length
  · rw [getElem?_pos (⟨s.toArray⟩ : ByteArray) i (show i < (⟨s.toArray⟩ : ByteArray).size by simpa [ByteArray.size] using h)]
    rw [List.getElem?_eq_getElem h]
    rfl
  · rw [getElem?_neg (⟨s.toArray⟩ : ByteArray) i (show ¬ i < (⟨s.toArray⟩ : ByteArray).size by simpa [ByteArray.size] using h)]
    simp; omega
theorem evIndexV_run {P : Program} {F : Froz} {w : World} {T : TypeId} {p q v : V} {x y : Value} (hp : VR F p x) (hq : VR F q y) (hv : evIndexV P T p q = some v) :
    ∃ z, (Instr.index T x y).run P w = .ok z w ∧ VR F v z := by
  unfold evIndexV at hv
  split at hv
  · rename_i s k i
    obtain rfl := hp.str_inv
    obtain rfl := hq.int_inv
    split at hv
    · rename_i hh
      obtain ⟨h1, h2⟩ := hh
      cases hb : s[i.toNat]? with
      | none => simp [hb] at hv
      | some b =>
        rw [hb] at hv
        simp only [Option.map_some, Option.some.injEq] at hv
        subst hv
        refine ⟨.int .u8 b.toNat, ?_, .int _ _⟩
        simp [Instr.index, asIntOf, Sem.run_bind, tund_run (tisstr_und h1), h2, ba_get, hb]
    · simp at hv
  · rename_i cs k i
    obtain ⟨vs, rfl, hr⟩ := hp.agg_inv
    obtain rfl := hq.int_inv
    split at hv
    · rename_i len e he
      split at hv
      · rename_i k hk
        split at hv
        · rename_i hi
          obtain ⟨z, hz, r⟩ := evPart_run (P := P) (w := w) hr hv
          exact ⟨z, by simp [Instr.index, asIntOf, Sem.run_bind, tund_run (tarr_und he), hi.1, hi.2, tsz_run hk, hz], r⟩
        · simp at hv
      · simp at hv
    · simp at hv
  · simp at hv
def evExtract (i : Nat) : V → Option V
  | .tup cs => cs[i]?
  | _ => none
theorem evExtract_run {P : Program} {F : Froz} {w : World} {i : Nat} {p v : V} {x : Value} (hp : VR F p x) (hv : evExtract i p = some v) :
    ∃ y, (Instr.extract x i).run P w = .ok y w ∧ VR F v y := by
  unfold evExtract at hv
  split at hv
  · obtain ⟨vs, rfl, hr⟩ := hp.tup_inv
    obtain ⟨y, hy, r⟩ := vrs_get hr hv
    exact ⟨y, by simp [Instr.extract, hy], r⟩
  · simp at hv
end Go.Fw
