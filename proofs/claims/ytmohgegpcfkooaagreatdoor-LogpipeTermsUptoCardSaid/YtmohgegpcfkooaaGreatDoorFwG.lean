/- A part of the proof: FwG -/
import Derived.Test.YtmohgegpcfkooaaGreatDoorFwF
set_option linter.all false
set_option linter.unusedSectionVars false
set_option linter.unusedVariables false
set_option linter.unusedSimpArgs false
namespace Go.Fw
variable [Gl]
def evB (t : Fr) : Option Operand → Option (Option Nat)
  | none => some none
  | some x => match evO t x with
    | some (.int _ i) => if 0 ≤ i then some (some i.toNat) else none
    | _ => none
theorem evB_run {F : Froz} {n : Nat} {t : Fr} {tm : Array Value} {ds : List Deferred} (hf : FrR F n t tm) {x : Option Operand} {r : Option Nat} (h : evB t x = some r) :
    (x = none ∧ r = none) ∨ ∃ y k m, x = some y ∧ r = some m ∧ Act.eval ⟨tm, ds⟩ y = .int k m := by
  unfold evB at h
  split at h
  · simp only [Option.some.injEq] at h; exact .inl ⟨rfl, h.symm⟩
  · rename_i y
    split at h
    · rename_i k i he
      split at h
      · rename_i h0
        simp only [Option.some.injEq] at h
        refine .inr ⟨y, k, i.toNat, rfl, h.symm, ?_⟩
        rw [(evO_r (ds := ds) hf he).int_inv]
        congr 1
        omega
      · simp at h
    · simp at h
def evSlice (P : Program) (T : TypeId) (x : V) (lo hi mx : Option Nat) : Option V :=
  match x with
  | .str s => if tisstr P T = true ∧ mx = none ∧ lo.getD 0 ≤ hi.getD s.length ∧ hi.getD s.length ≤ s.length then some (.str ((s.drop (lo.getD 0)).take (hi.getD s.length - lo.getD 0))) else none
  | .nilslice => match tslice P T with
    | some e => match tsz P e with
      | some _ => if lo.getD 0 = 0 ∧ hi.getD 0 = 0 ∧ mx = none then some .nilslice else none
      | none => none
    | none => none
  | .slice b o len cap => match tslice P T with
    | some e => match tsz P e with
      | some k => if (mx = none ∨ hi ≠ none) ∧ lo.getD 0 ≤ hi.getD len ∧ hi.getD len ≤ mx.getD cap ∧ mx.getD cap ≤ cap then
          some (.slice b (if mx.getD cap = lo.getD 0 then o else o + lo.getD 0 * k) (hi.getD len - lo.getD 0) (mx.getD cap - lo.getD 0)) else none
      | none => none
    | none => none
  | .fslice cs len => match tslice P T with
    | some e => match tsz P e with
      | some k => if (mx = none ∨ hi ≠ none) ∧ lo.getD 0 ≤ hi.getD len ∧ hi.getD len ≤ mx.getD len ∧ mx.getD len ≤ len then
          some (if mx = some 0 ∧ hi = some 0 ∧ lo.getD 0 = 0 then .eslice else .fslice ((cs.drop (lo.getD 0 * k)).take ((hi.getD len - lo.getD 0) * k)) (hi.getD len - lo.getD 0)) else none
      | none => none
    | none => none
  | .ptr b o => match tarr P T with
    | some (n, e) => match tsz P e with
      | some k => if mx = none ∧ lo.getD 0 ≤ hi.getD n ∧ hi.getD n ≤ n then
          some (.slice b (if n = lo.getD 0 then o else o + lo.getD 0 * k) (hi.getD n - lo.getD 0) (n - lo.getD 0)) else none
      | none => none
    | none => none
  | _ => none
def BOk (x : Option Value) (r : Option Nat) : Prop := (x = none ∧ r = none) ∨ ∃ k m, x = some (.int k (m : Nat)) ∧ r = some m
theorem evB_ok {F : Froz} {n : Nat} {t : Fr} {tm : Array Value} {ds : List Deferred} (hf : FrR F n t tm) {x : Option Operand} {r : Option Nat} (h : evB t x = some r) : BOk (x.map (Act.eval ⟨tm, ds⟩)) r := by
  rcases evB_run (ds := ds) hf h with ⟨rfl, rfl⟩ | ⟨y, k, m, rfl, rfl, e⟩
  · exact .inl ⟨rfl, rfl⟩
  · exact .inr ⟨k, m, by simp [e], rfl⟩
theorem sliceBound_run {P : Program} {w : World} {k : IntKind} {m y : Nat} {code : BoundsCode} (h : m ≤ y) : (Instr.sliceBound (.int k (m : Nat)) y code).run P w = .ok m w := by
  have : (m : Int) ≤ (y : Int) := by omega
  simp [Instr.sliceBound, asIntOf, this]
theorem sliceBounds_run {P : Program} {w : World} {isS : Bool} {len cap : Nat} {lo hi mx : Option Value} {l h m : Option Nat} (hl : BOk lo l) (hh : BOk hi h) (hm : BOk mx m) (hmh : m = none ∨ h ≠ none)
    (c1 : l.getD 0 ≤ h.getD len) (c2 : h.getD len ≤ m.getD cap) (c3 : m.getD cap ≤ cap) : (Instr.sliceBounds isS len cap lo hi mx).run P w = .ok (l.getD 0, h.getD len, m.getD cap) w := by
  unfold Instr.sliceBounds
  rcases hm with ⟨rfl, rfl⟩ | ⟨km, m', rfl, rfl⟩ <;> rcases hh with ⟨rfl, rfl⟩ | ⟨kh, h', rfl, rfl⟩ <;> rcases hl with ⟨rfl, rfl⟩ | ⟨kl, l', rfl, rfl⟩ <;> simp only [Option.getD_none, Option.getD_some] at c1 c2 c3 ⊢ <;>
    first
      | (simp at hmh; done)
      | simp only [Sem.run_bind, Sem.run_pure, Result.andThen_ok, sliceBound_run c1, sliceBound_run c2, sliceBound_run c3]
theorem evSlice_run {P : Program} {F : Froz} {w : World} {T : TypeId} {x v : V} {y : Value} {lo hi mx : Option Value} {l h m : Option Nat} (hx : VR F x y) (hl : BOk lo l) (hh : BOk hi h) (hm : BOk mx m) (hv : evSlice P T x l h m = some v) :
    ∃ z, (Instr.sliceAt T y lo hi mx).run P w = .ok z w ∧ VR F v z := by
  unfold evSlice at hv
  split at hv
  · rename_i s
    obtain rfl := hx.str_inv
    split at hv
    · rename_i hc
      obtain ⟨h1, rfl, h2, h3⟩ := hc
      simp only [Option.some.injEq] at hv; subst hv
      have hmx : mx = none := by rcases hm with ⟨h, _⟩ | ⟨k, m, _, h⟩; exact h; cases h
      subst hmx
      have := sliceBounds_run (P := P) (w := w) (isS := false) (len := s.length) (cap := s.length) hl hh (m := none) (.inl ⟨rfl, rfl⟩) (.inl rfl) h2 h3 (Nat.le_refl _)
      refine ⟨_, ?_, .str _⟩
      simp only [Instr.sliceAt, Sem.run_bind, tund_run (tisstr_und h1), Result.andThen_ok, Instr.slice, ba_size, this, ba_extract]
      simp [this]
    · simp at hv
  · obtain rfl := hx.nilslice_inv
    split at hv
    · rename_i e he
      split at hv
      · rename_i k hk
        split at hv
        · rename_i hc
          obtain ⟨h1, h2, rfl⟩ := hc
          simp only [Option.some.injEq] at hv; subst hv
          have hmx : mx = none := by rcases hm with ⟨h, _⟩ | ⟨k, m, _, h⟩; exact h; cases h
          subst hmx
          have := sliceBounds_run (P := P) (w := w) (isS := true) (len := 0) (cap := 0) hl hh (m := none) (.inl ⟨rfl, rfl⟩) (.inl rfl) (by omega) (by omega) (Nat.le_refl _)
          refine ⟨_, ?_, .nilslice⟩
          simp only [Instr.sliceAt, Sem.run_bind, tund_run (tslice_und he), Result.andThen_ok, Instr.slice, this, tsz_run hk]
          simp [h1, h2]
        · simp at hv
      · simp at hv
    · simp at hv
  · rename_i b o len cap
    obtain rfl := hx.slice_inv
    split at hv
    · rename_i e he
      split at hv
      · rename_i k hk
        split at hv
        · rename_i hc
          obtain ⟨h0, h1, h2, h3⟩ := hc
          simp only [Option.some.injEq] at hv; subst hv
          have := sliceBounds_run (P := P) (w := w) (isS := true) (len := len) (cap := cap) hl hh hm h0 h1 h2 h3
          refine ⟨_, ?_, .slice _ _ _ _ (by omega)⟩
          simp only [Instr.sliceAt, Sem.run_bind, tund_run (tslice_und he), Result.andThen_ok, Instr.slice, this, tsz_run hk, Sem.run_pure]
          split
          · rfl
          · simp [add_mk]
        · simp at hv
      · simp at hv
    · simp at hv
  · rename_i cs len
    rcases hx.fslice_inv with ⟨rfl, rfl, rfl⟩ | ⟨a, cap, g, rfl, hlc, g1, g2⟩
    · split at hv
      · rename_i e he
        split at hv
        · rename_i k hk
          split at hv
          · rename_i hc
            obtain ⟨h0, h1, h2, h3⟩ := hc
            simp only [Option.some.injEq] at hv; subst hv
            have := sliceBounds_run (P := P) (w := w) (isS := true) (len := 0) (cap := 0) hl hh hm h0 h1 h2 h3
            have e1 : l.getD 0 = 0 := by omega
            have e2 : h.getD 0 = 0 := by omega
            have e3 : m.getD 0 = 0 := by omega
            refine ⟨.slice none 0 0, ?_, ?_⟩
            · simp only [Instr.sliceAt, Sem.run_bind, tund_run (tslice_und he), Result.andThen_ok, Instr.slice, this, tsz_run hk]
              simp [e1, e2, e3]
            · split
              · exact .eslice none
              · rw [e1, e2]; simpa using VR.fnil
          · simp at hv
        · simp at hv
      · simp at hv
    split at hv
    · rename_i e he
      split at hv
      · rename_i k hk
        split at hv
        · rename_i hc
          obtain ⟨h0, h1, h2, h3⟩ := hc
          simp only [Option.some.injEq] at hv; subst hv
          have hcap : m.getD cap ≤ cap ∧ h.getD len ≤ m.getD cap := by
            cases m with
            | none => simp only [Option.getD_none] at h2 h3 ⊢; omega
            | some m => simp only [Option.getD_some] at h2 h3 ⊢; omega
          have := sliceBounds_run (P := P) (w := w) (isS := true) (len := len) (cap := cap) hl hh hm h0 h1 hcap.2 hcap.1
          refine ⟨.slice (some (if m.getD cap = l.getD 0 then a else a.add (l.getD 0 * k))) (h.getD len - l.getD 0) (m.getD cap - l.getD 0), ?_, ?_⟩
          rotate_left
          · by_cases hez : m = some 0 ∧ h = some 0 ∧ l.getD 0 = 0
            · rw [if_pos hez]
              obtain ⟨rfl, rfl, e3⟩ := hez
              simp only [Option.getD_some, e3]
              exact .eslice (some _)
            rw [if_neg hez]
            by_cases hml : m.getD cap = l.getD 0
            · have : h.getD len - l.getD 0 = 0 := by omega
              rw [if_pos hml, this, Nat.zero_mul, List.take_zero]
              exact .fslice [] 0 _ _ g (by omega) (fun i hi => by simp at hi) (fun i v hv => by simp at hv)
            · rw [if_neg hml]
              refine .fslice _ _ _ _ (fun i => g (l.getD 0 * k + i)) (by omega) (fun i hi => ?_) (fun i v hv => ?_)
              · simp only [List.length_take, List.length_drop] at hi
                rw [add_add]
                exact g1 _ (by omega)
              · have hi : i < (h.getD len - l.getD 0) * k := by
                  have := (List.getElem?_eq_some_iff.1 hv).1
                  simp only [List.length_take, List.length_drop] at this
                  omega
                rw [List.getElem?_take_of_lt hi, List.getElem?_drop] at hv
                exact g2 _ _ hv
          · simp only [Instr.sliceAt, Sem.run_bind, tund_run (tslice_und he), Result.andThen_ok, Instr.slice, this, tsz_run hk, Sem.run_pure]
            split <;> simp
        · simp at hv
      · simp at hv
    · simp at hv
  · rename_i b o
    obtain rfl := hx.ptr_inv
    split at hv
    · rename_i n e he
      split at hv
      · rename_i k hk
        split at hv
        · rename_i hc
          obtain ⟨rfl, h1, h2⟩ := hc
          simp only [Option.some.injEq] at hv; subst hv
          have hmx : mx = none := by rcases hm with ⟨h, _⟩ | ⟨k, m, _, h⟩; exact h; cases h
          subst hmx
          have := sliceBounds_run (P := P) (w := w) (isS := false) (len := n) (cap := n) hl hh (m := none) (.inl ⟨rfl, rfl⟩) (.inl rfl) h1 h2 (Nat.le_refl _)
          refine ⟨_, ?_, .slice _ _ _ _ (by omega)⟩
          simp only [Instr.sliceAt, Instr.sureAddr, Sem.run_bind, tund_run (tarr_und he), Result.andThen_ok, this, tsz_run hk, Sem.run_pure, Option.getD_none]
          split
          · rfl
          · simp [add_mk]
        · simp at hv
      · simp at hv
    · simp at hv
  · simp at hv
end Go.Fw
