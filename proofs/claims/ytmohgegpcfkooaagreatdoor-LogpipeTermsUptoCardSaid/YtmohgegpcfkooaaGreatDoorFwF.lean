/- A part of the proof: FwF -/
import Derived.Test.YtmohgegpcfkooaaGreatDoorFwE
set_option linter.all false
set_option linter.unusedSectionVars false
set_option linter.unusedVariables false
set_option linter.unusedSimpArgs false
namespace Go.Fw
variable [Gl]
theorem eqGuard_run {P : Program} {F : Froz} {w : World} {op : BinOp} {T : TypeId} {p q : Operand} {a b : V} {x y : Value} (hx : VR F a x) (hy : VR F b y) (he : eqFine P T a = true) :
    (eqGuard op T p q x y).run P w = .ok () w := by
  cases hx <;> first
    | (simp [eqFine] at he; done)
    | (cases hy <;> cases op <;> simp [eqGuard]; done)
    | skip
  rename_i cs vs hl h2
  simp only [eqFine] at he
  obtain ⟨fs, hfs⟩ := Option.isSome_iff_exists.1 he
  have hg : P.eqGuardType P.depth T = false := by
    unfold tflds at hfs
    split at hfs
    · split at hfs
      · rename_i hc
        simp only [Bool.and_eq_true, Bool.not_eq_true'] at hc
        exact hc.2
      · simp at hfs
    · simp at hfs
  cases hy <;> first
    | (cases op <;> simp [eqGuard]; done)
    | exact run_eqGuard_agg w op T p q _ _ hg
theorem eqGuard_int {P : Program} {w : World} {op : BinOp} {T : TypeId} {p q : Operand} {k k' : IntKind} {a b : Int} : (eqGuard op T p q (.int k a) (.int k' b)).run P w = .ok () w := by
  cases op <;> simp [eqGuard]
theorem eqGuard_str {P : Program} {w : World} {op : BinOp} {T : TypeId} {p q : Operand} {a b : ByteArray} : (eqGuard op T p q (.string a) (.string b)).run P w = .ok () w := by
  cases op <;> simp [eqGuard]
theorem eql_run {P : Program} {F : Froz} {w : World} {T : TypeId} {a b : V} {c : Bool} {x y : Value} (hx : VR F a x) (hy : VR F b y) (hn : ∀ k m k' m', ¬ (a = .int k m ∧ b = .int k' m')) (hs : ∀ s s', ¬ (a = .str s ∧ b = .str s'))
    (h : evEq P 8 T a b = some c) : (binOp .eql T x y).run P w = .ok (.bool c) w ∧ (binOp .neq T x y).run P w = .ok (.bool (!c)) w := by
  have h1 := evEq_run (P := P) (F := F) (w := w) 8 9992 T a b c x y hx hy h
  have key : (Op.equal T x y).run P w = .ok c w := h1
  have h0 : a ≠ b ∨ True := .inr trivial
  unfold evEq at h
  split at h <;> first
    | (simp at h; done)
    | (exfalso; exact hn _ _ _ _ ⟨rfl, rfl⟩)
    | (exfalso; exact hs _ _ ⟨rfl, rfl⟩)
    | (cases hx; cases hy; constructor <;> simp [binOp, Sem.run_bind, key]; done)
theorem evBin_run {P : Program} {F : Froz} {w : World} {op : BinOp} {T : TypeId} {p q : Operand} {a b v : V} {x y : Value} (hx : VR F a x) (hy : VR F b y) (hv : evBin P op T a b = some v) :
    ∃ z, (do eqGuard op T p q x y; binOp op T x y : Sem Value).run P w = .ok z w ∧ VR F v z := by
  unfold evBin at hv
  split at hv
  · obtain rfl := hx.int_inv; obtain rfl := hy.int_inv
    split at hv
    · obtain ⟨z, h1, h2⟩ := evShift_run (P := P) (F := F) (w := w) (T := T) (k' := _) hv
      exact ⟨z, by simp only [Sem.run_bind, eqGuard_int, Result.andThen_ok]; exact h1, h2⟩
    · split at hv
      · subst_vars
        obtain ⟨z, h1, h2⟩ := evInt_run (P := P) (F := F) (w := w) (T := T) hv
        exact ⟨z, by simp only [Sem.run_bind, eqGuard_int, Result.andThen_ok]; exact h1, h2⟩
      · simp at hv
  · obtain rfl := hx.str_inv; obtain rfl := hy.str_inv
    obtain ⟨z, h1, h2⟩ := evStr_run (P := P) (F := F) (w := w) (T := T) hv
    exact ⟨z, by simp only [Sem.run_bind, eqGuard_str, Result.andThen_ok]; exact h1, h2⟩
  · rename_i hi hs
    have hi' : ∀ k m k' m', ¬ (a = .int k m ∧ b = .int k' m') := fun k m k' m' e => hi k m k' m' e.1 e.2
    have hs' : ∀ s s', ¬ (a = .str s ∧ b = .str s') := fun s s' e => hs s s' e.1 e.2
    split at hv
    · split at hv
      · rename_i he
        cases hc : evEq P 8 T a b with
        | none => simp [hc] at hv
        | some c =>
          rw [hc] at hv
          simp only [Option.map_some, Option.some.injEq] at hv
          subst hv
          refine ⟨.bool c, ?_, .bool _⟩
          simp only [Sem.run_bind, eqGuard_run hx hy he, Result.andThen_ok]
          exact (eql_run hx hy hi' hs' hc).1
      · simp at hv
    · split at hv
      · rename_i he
        cases hc : evEq P 8 T a b with
        | none => simp [hc] at hv
        | some c =>
          rw [hc] at hv
          simp only [Option.map_some, Option.some.injEq] at hv
          subst hv
          refine ⟨.bool (!c), ?_, .bool _⟩
          simp only [Sem.run_bind, eqGuard_run hx hy he, Result.andThen_ok]
          exact (eql_run hx hy hi' hs' hc).2
      · simp at hv
    · simp at hv
def evUn (op : UnOp) : V → Option V
  | .int k n => match op with
    | .neg => some (.int k (k.wrap (0 - n)))
    | .xor => some (.int k (k.wrap (BitVec.ofInt k.bits (if k.signed then -1 else k.max) ^^^ BitVec.ofInt k.bits n).toNat))
    | _ => none
  | .bool b => match op with
    | .not => some (.bool (!b))
    | _ => none
  | _ => none
theorem evUn_run {P : Program} {F : Froz} {w : World} {op : UnOp} {a v : V} {x : Value} (hx : VR F a x) (hv : evUn op a = some v) : ∃ z, (Op.unary op x).run P w = .ok z w ∧ VR F v z := by
  unfold evUn at hv
  split at hv
  · obtain rfl := hx.int_inv
    split at hv
    · simp only [Option.some.injEq] at hv; subst hv
      exact ⟨_, rfl, .int _ _⟩
    · simp only [Option.some.injEq] at hv; subst hv
      exact ⟨_, rfl, .int _ _⟩
    · simp at hv
  · obtain rfl := hx.bool_inv
    split at hv
    · simp only [Option.some.injEq] at hv; subst hv
      exact ⟨_, rfl, .bool _⟩
    · simp at hv
  · simp at hv
def bytesOf : List V → Option (List UInt8)
  | [] => some []
  | .int .u8 n :: r => (bytesOf r).map (UInt8.ofNat n.toNat :: ·)
  | _ :: _ => none
def evConv (P : Program) (h : Hp) (src dst : TypeId) : V → Option V
  | .int _ n => match tint P src, tint P dst with
    | some _, some k => some (.int k (k.wrap n))
    | some _, none => if tisstr P dst = true then some (.str (Utf8.encode n).data.toList) else none
    | _, _ => none
  | .str s => if tisstr P src = true ∧ tisstr P dst = true then some (.str s) else none
  | .nilslice => match tslice P src with
    | some e => if tint P e = some .u8 ∧ tisstr P dst = true then some (.str []) else none
    | none => none
  | .slice b o len _ => match tslice P src with
    | some e => if tint P e = some .u8 ∧ tisstr P dst = true then match hget h b with
        | some (.cells _ cs _) => if o + len ≤ cs.length then (bytesOf ((cs.drop o).take len)).map .str else none
        | _ => none
      else none
    | none => none
  | .fslice cs len => match tslice P src with
    | some e => if tint P e = some .u8 ∧ tisstr P dst = true ∧ len ≤ cs.length then (bytesOf (cs.take len)).map .str else none
    | none => none
  | _ => none
theorem bytes_loop {P : Program} {F : Froz} {w : World} (vs : List Value) : ∀ (cs : List V) (s : List UInt8) (acc : ByteArray), bytesOf cs = some s → cs.length = vs.length → (∀ (i : Nat) (v : V), cs[i]? = some v → VR F v (vs.getD i undef)) →
    (forIn vs acc fun c r => (match c with | .int .u8 n => pure (ForInStep.yield (r.push (UInt8.ofNat n.toNat))) | _ => (do stuck "bytesToString: byte expected"; pure (ForInStep.yield r) : Sem (ForInStep ByteArray)) : Sem (ForInStep ByteArray))).run P w = .ok (acc ++ ⟨s.toArray⟩) w := by
  induction vs with
  | nil =>
    intro cs s acc hs hl _
    have : cs = [] := List.length_eq_zero_iff.1 hl
    subst this
    simp only [bytesOf, Option.some.injEq] at hs
    subst hs
    simp
    apply ByteArray.ext
    rw [ByteArray.data_append]
    simp
  | cons x r ih =>
    intro cs s acc hs hl hr
    cases cs with
    | nil => simp at hl
    | cons c cs =>
      have h0 := hr 0 c rfl
      simp only [List.getD_cons_zero] at h0
      unfold bytesOf at hs
      split at hs
      · simp at *
      · rename_i n r' he
        simp only [List.cons.injEq] at he
        obtain ⟨rfl, rfl⟩ := he
        obtain rfl := h0.int_inv
        cases hb : bytesOf cs with
        | none => simp [hb] at hs
        | some s' =>
          rw [hb] at hs
          simp only [Option.map_some, Option.some.injEq] at hs
          subst hs
          have := ih cs s' (acc.push (UInt8.ofNat n.toNat)) hb (by simpa using hl) (fun i v hv => by simpa using hr (i + 1) v (by simpa using hv))
          simp only [List.forIn_cons, Sem.run_bind, Sem.run_pure, Result.andThen_ok]
          rw [this]
          congr 1
          apply ByteArray.ext
          rw [ByteArray.data_append, ByteArray.data_append]
          simp [ByteArray.data_push]
      · simp at hs
theorem bytesToString_run {P : Program} {F : Froz} {w : World} {a : Addr} {len cap : Nat} {cs : List V} {s : List UInt8} (g : Nat → Value) (hs : bytesOf cs = some s) (hl : cs.length = len)
    (h1 : ∀ i, i < len → w.cell? (a.add i) = some (g i)) (h2 : ∀ i v, cs[i]? = some v → VR F v (g i)) :
    (Conv.bytesToString (.slice (some a) len cap)).run P w = .ok (.string ⟨s.toArray⟩) w := by
  have h := bytes_loop (P := P) (F := F) (w := w) ((List.range len).map g) cs s ByteArray.empty hs (by simp [hl]) (fun i v hv => by
    have hi : i < len := by have := (List.getElem?_eq_some_iff.1 hv).1; omega
    simpa [hi] using h2 i v hv)
  have e : ByteArray.empty ++ (⟨s.toArray⟩ : ByteArray) = ⟨s.toArray⟩ := by
    apply ByteArray.ext; rw [ByteArray.data_append]; simp
  rw [e] at h
  simp only [Conv.bytesToString, Sem.run_bind, run_loadCells g h1, Result.andThen_ok]
  rw [← Array.forIn_toList]
  have h' := h
  simp only [bind_pure_comp] at h' ⊢
  erw [h']
  rfl
theorem evConv_run {P : Program} {F : Froz} {h : Hp} {w : World} (ho : Own F h w) {src dst : TypeId} {a v : V} {x : Value} (hx : VR F a x) (hv : evConv P h src dst a = some v) :
    ∃ z, (convert src dst x).run P w = .ok z w ∧ VR F v z := by
  unfold evConv at hv
  split at hv
  · rename_i k n
    obtain rfl := hx.int_inv
    split at hv
    · rename_i k1 k2 hs hd
      simp only [Option.some.injEq] at hv; subst hv
      refine ⟨_, ?_, .int _ _⟩
      simp [convert, Sem.run_bind, tund_run (tint_und hs), tund_run (tint_und hd), Conv.intToInt]
    · rename_i k1 hs hd
      split at hv
      · rename_i hc
        simp only [Option.some.injEq] at hv; subst hv
        refine ⟨.string (Utf8.encode n), ?_, by simpa using VR.str (F := F) (Utf8.encode n).data.toList⟩
        simp [convert, Sem.run_bind, tund_run (tint_und hs), tund_run (tisstr_und hc), Conv.intToString]
      · simp at hv
    · simp at hv
  · obtain rfl := hx.str_inv
    split at hv
    · rename_i hc
      simp only [Option.some.injEq] at hv; subst hv
      refine ⟨_, ?_, .str _⟩
      simp [convert, Sem.run_bind, tund_run (tisstr_und hc.1), tund_run (tisstr_und hc.2)]
    · simp at hv
  · obtain rfl := hx.nilslice_inv
    split at hv
    · rename_i e he
      split at hv
      · rename_i hc
        simp only [Option.some.injEq] at hv; subst hv
        refine ⟨.string ⟨#[]⟩, ?_, VR.str []⟩
        simp [convert, Sem.run_bind, tund_run (tslice_und he), tund_run (tisstr_und hc.2), tund_run (tint_und hc.1), Conv.bytesToString]
        rfl
      · simp at hv
    · simp at hv
  · rename_i b o len cap
    obtain rfl := hx.slice_inv
    split at hv
    · rename_i e he
      split at hv
      · rename_i hc
        split at hv
        · rename_i T cs n hg
          split at hv
          · rename_i hl
            obtain ⟨c, fz, hx, hl', _, _, hr⟩ := own_cells ho hg
            cases hb : bytesOf ((cs.drop o).take len) with
            | none => simp [hb] at hv
            | some s =>
              rw [hb] at hv
              simp only [Option.map_some, Option.some.injEq] at hv; subst hv
              refine ⟨_, ?_, VR.str s⟩
              have := bytesToString_run (P := P) (F := F) (w := w) (a := ⟨b, o, none⟩) (len := len) (cap := cap) (fun i => c.getD (o + i) undef) hb (by simp; omega)
                (fun i hi => by
                  rw [add_mk, cell_of_block hx]
                  have : o + i < c.size := by omega
                  simp [this])
                (fun i v hv => by
                  have hi : i < len := by
                    have := (List.getElem?_eq_some_iff.1 hv).1
                    simp at this; omega
                  rw [List.getElem?_take_of_lt hi, List.getElem?_drop] at hv
                  exact hr _ _ hv)
              simp only [convert, Sem.run_bind, tund_run (tslice_und he), tund_run (tisstr_und hc.2), tund_run (tint_und hc.1), Result.andThen_ok, this]
          · simp at hv
        · simp at hv
      · simp at hv
    · simp at hv
  · rename_i cs len
    rcases hx.fslice_inv with ⟨rfl, rfl, rfl⟩ | ⟨a, cap, g, rfl, hl, h1, h2⟩
    · split at hv
      · rename_i e he
        split at hv
        · rename_i hc
          simp only [List.take_nil, bytesOf, Option.map_some, Option.some.injEq] at hv; subst hv
          refine ⟨.string ⟨#[]⟩, ?_, VR.str []⟩
          simp [convert, Sem.run_bind, tund_run (tslice_und he), tund_run (tisstr_und hc.2.1), tund_run (tint_und hc.1), Conv.bytesToString]
          rfl
        · simp at hv
      · simp at hv
    split at hv
    · rename_i e he
      split at hv
      · rename_i hc
        cases hb : bytesOf (cs.take len) with
        | none => simp [hb] at hv
        | some s =>
          rw [hb] at hv
          simp only [Option.map_some, Option.some.injEq] at hv; subst hv
          refine ⟨_, ?_, VR.str s⟩
          have := bytesToString_run (P := P) (F := F) (w := w) (a := a) (len := len) (cap := cap) g hb (by simp; omega)
            (fun i hi => fcell_cell ho (h1 i (by omega)))
            (fun i v hv => by
              have hi : i < len := by
                have := (List.getElem?_eq_some_iff.1 hv).1
                simp at this; omega
              rw [List.getElem?_take_of_lt hi] at hv
              exact h2 _ _ hv)
          simp only [convert, Sem.run_bind, tund_run (tslice_und he), tund_run (tisstr_und hc.2.1), tund_run (tint_und hc.1), Result.andThen_ok, this]
      · simp at hv
    · simp at hv
  · simp at hv
end Go.Fw
