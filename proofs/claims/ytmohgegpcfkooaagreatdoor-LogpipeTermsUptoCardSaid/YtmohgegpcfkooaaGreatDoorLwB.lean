/- A part of the proof: LwB -/
import Derived.Test.YtmohgegpcfkooaaGreatDoorLwA
set_option linter.all false
set_option linter.unusedSectionVars false
set_option linter.unusedVariables false
set_option linter.unusedSimpArgs false
namespace Go.Fw
variable [Gl]
variable {P : Program} {ρ : Nat → Option Nat} {m : Fl} {h hf : Hp}
def constB : Operand → Bool
  | .const _ => true
  | _ => false
def divB : BinOp → Bool
  | .quo | .rem | .shl | .shr => true
  | _ => false
def xBin (P : Program) (op : BinOp) (T : TypeId) (cy : Bool) (x y : V) : Option V :=
  if divB op && !cy then none else match x, y with
    | .int k a, .int k' b => evBin P op T (.int k a) (.int k' b)
    | .str a, .str b => match op with
      | .add => none
      | op => evStr op a b
    | .ptr b o, .nilptr => evBin P op T (.ptr b o) .nilptr
    | .slice b o l c, .nilslice => evBin P op T (.slice b o l c) .nilslice
    | .map b, .nilmap => evBin P op T (.map b) .nilmap
    | .clo f cs, .nilfunc => evBin P op T (.clo f cs) .nilfunc
    | .agg _, .agg _ => none
    | x, y => match dry x && dry y with
      | true => evBin P op T x y
      | false => none
def xP (P : Program) (m : Fl) (h : Hp) (o : Oper) : Option V :=
  match o.op with
  | .move x => evX m x
  | .assign x => evX m x
  | .load T a => match evX m a with
    | some (.ptr b off) => match hget h b with
      | some (.cells _ cs _) => ldAt P T cs off
      | _ => none
    | _ => none
  | .nilCheck x => match evX m x with
    | some (.ptr b o) => some (.ptr b o)
    | some (.fptr cs o) => some (.fptr cs o)
    | some (.clo f cs) => some (.clo f cs)
    | some (.yield l) => some (.yield l)
    | _ => none
  | .binOp op T x y _ => match evX m x with
    | some a => match evX m y with
      | some b => xBin P op T (constB y) a b
      | none => none
    | none => none
  | .unOp op _ x => match evX m x with
    | some a => evUn op a
    | none => none
  | .convert s d x => match evX m x with
    | some (.int k n) => evConv P h s d (.int k n)
    | some (.str l) => evConv P h s d (.str l)
    | _ => none
  | .makeFunc (.func f) first caps => if first.toList.isEmpty then (evXs m caps.toList).map (.clo f) else none
  | .fieldAddr s x i => match evX m x with
    | some p => evField P s i p
    | none => none
  | .field T x i => match evX m x with
    | some p => evFieldV P T i p
    | none => none
  | .extract x i => match evX m x with
    | some p => evExtract i p
    | none => none
  | .build T parts => match evXp m parts.toList with
    | some ps => match tpls P T with
      | some pl => match tzero P T with
        | some z => match evFill (fun i => pl[i]?) z ps with
          | some cs => some (.agg cs)
          | none => none
        | none => none
      | none => none
    | none => none
  | .call c => match c.callee with
    | .builtin .len => match c.args.toList, c.argTypes.toList with
      | [x], [T] => match evX m x with
        | some a => match lenFits P T a with
          | true => (evLen h a).map (.int .i64)
          | false => none
        | none => none
      | _, _ => none
    | .builtin .min => match evXs m c.args.toList with
      | some (.int k a :: vs) => evMin (.int k a) vs
      | _ => none
    | .builtin .max => match evXs m c.args.toList with
      | some (.int k a :: vs) => evMax (.int k a) vs
      | _ => none
    | _ => none
  | _ => none
def flat : V → Bool
  | .int _ _ | .bool _ | .str _ => true
  | _ => false
theorem flat_ren {v : V} (h : flat v = true) : renV ρ v = v := by cases v <;> simp_all [flat, renV]
theorem evInt_flat {op : BinOp} {k : IntKind} {a b : Int} {v : V} (h : evInt op k a b = some v) : flat v = true := by
  cases op <;> simp only [evInt] at h <;> first
    | (simp only [Option.some.injEq] at h; subst h; rfl)
    | (split at h <;> first | (simp only [Option.some.injEq] at h; subst h; rfl) | simp at h)
    | simp at h
theorem evStr_flat {op : BinOp} {a b : List UInt8} {v : V} (h : evStr op a b = some v) : flat v = true := by
  cases op <;> simp only [evStr] at h <;> first
    | (simp only [Option.some.injEq] at h; subst h; rfl)
    | (split at h <;> first | (simp only [Option.some.injEq] at h; subst h; rfl) | simp at h)
    | simp at h
theorem evShift_flat {op : BinOp} {k : IntKind} {a b : Int} {v : V} (h : evShift op k a b = some v) : flat v = true := by
  unfold evShift at h
  split at h
  · simp at h
  · split at h <;> first | (simp only [Option.some.injEq] at h; subst h; rfl) | simp at h
theorem evBin_flat {op : BinOp} {T : TypeId} {a b v : V} (h : evBin P op T a b = some v) : flat v = true := by
  unfold evBin at h
  split at h
  · split at h
    · exact evShift_flat h
    · split at h
      · exact evInt_flat h
      · simp at h
  · exact evStr_flat h
  · split at h
    · split at h
      · cases hc : evEq P 8 T a b with
        | none => simp [hc] at h
        | some c => rw [hc] at h; simp only [Option.map_some, Option.some.injEq] at h; subst h; rfl
      · simp at h
    · split at h
      · cases hc : evEq P 8 T a b with
        | none => simp [hc] at h
        | some c => rw [hc] at h; simp only [Option.map_some, Option.some.injEq] at h; subst h; rfl
      · simp at h
    · simp at h
theorem xBin_ren {op : BinOp} {T : TypeId} {cy : Bool} {a b v : V} (va : vld ρ a) (h : xBin P op T cy a b = some v) : evBin P op T (renV ρ a) (renV ρ b) = some (renV ρ v) := by
  unfold xBin at h
  split at h
  · simp at h
  · split at h
    · rw [flat_ren (evBin_flat h)]; exact h
    · split at h
      · simp at h
      · rw [flat_ren (evStr_flat h)]; simpa [renV, evBin] using h
    · obtain ⟨c, hc⟩ := va; rw [flat_ren (evBin_flat h)]; simp only [renV, hc]; rw [← h]; cases op <;> simp [evBin, eqFine, evEq]
    · obtain ⟨c, hc⟩ := va; rw [flat_ren (evBin_flat h)]; simp only [renV, hc]; rw [← h]; cases op <;> simp [evBin, eqFine, evEq]
    · obtain ⟨c, hc⟩ := va; rw [flat_ren (evBin_flat h)]; simp only [renV, hc]; rw [← h]; cases op <;> simp [evBin, eqFine, evEq]
    · rw [flat_ren (evBin_flat h)]; simp only [renV]; rw [← h]; cases op <;> simp [evBin, eqFine, evEq]
    · simp at h
    · split at h
      · rename_i hd
        simp only [Bool.and_eq_true] at hd
        rw [flat_ren (evBin_flat h), dry_ren ρ hd.1, dry_ren ρ hd.2]; exact h
      · simp at h
theorem evField_ren {s i : Nat} {p v : V} (va : vld ρ p) (h : evField P s i p = some v) : evField P s i (renV ρ p) = some (renV ρ v) := by
  unfold evField at h
  split at h
  · split at h
    · split at h
      · rename_i h1 _ _ h2
        obtain ⟨c, hc⟩ := va
        simp only [Option.some.injEq] at h; subst h
        simp only [renV, hc, evField, h1, h2]
      · simp at h
    · simp at h
  · split at h
    · split at h
      · rename_i h1 _ _ h2
        simp only [Option.some.injEq] at h; subst h
        simp only [renV, evField, h1, h2]
      · simp at h
    · simp at h
  · simp at h
theorem evFieldV_ren {T i : Nat} {p v : V} (h : evFieldV P T i p = some v) : evFieldV P T i (renV ρ p) = some (renV ρ v) := by
  unfold evFieldV at h
  split at h
  · split at h
    · rename_i h1
      simp only [renV, evFieldV, h1]
      exact evPart_ren h
    · simp at h
  · simp at h
theorem evExtract_ren {i : Nat} {p v : V} (h : evExtract i p = some v) : evExtract i (renV ρ p) = some (renV ρ v) := by
  unfold evExtract at h
  split at h
  · simp only [renV, evExtract, renL_get, h]; rfl
  · simp at h
theorem evUn_ren {op : UnOp} {p v : V} (h : evUn op p = some v) : evUn op (renV ρ p) = some (renV ρ v) := by
  unfold evUn at h
  split at h
  · split at h <;> first | (simp only [Option.some.injEq] at h; subst h; rfl) | simp at h
  · split at h <;> first | (simp only [Option.some.injEq] at h; subst h; rfl) | simp at h
  · simp at h
theorem tzero_dry {T : TypeId} {z : List V} (h : tzero P T = some z) : z.all dryV1 = true := by
  unfold tzero at h
  simp only [Option.bind_eq_some_iff] at h
  obtain ⟨_, _, h⟩ := h
  exact ofLeaves_dry h
theorem evMin_int {k : IntKind} {a : Int} : ∀ {vs : List V} {v : V}, evMin (.int k a) vs = some v → (evMin (.int k a) (renL ρ vs) = some (renV ρ v) ∧ ∃ b, v = .int k b)
  | [], v, h => by simp only [evMin, Option.some.injEq] at h; subst h; exact ⟨rfl, _, rfl⟩
  | u :: r, v, h => by
    cases u <;> simp only [evMin] at h <;> try (simp at h; done)
    split at h
    · rename_i e; subst e
      obtain ⟨h1, b, rfl⟩ := evMin_int h
      exact ⟨by simpa [renL, renV, evMin] using h1, b, rfl⟩
    · simp at h
theorem evMax_int {k : IntKind} {a : Int} : ∀ {vs : List V} {v : V}, evMax (.int k a) vs = some v → (evMax (.int k a) (renL ρ vs) = some (renV ρ v) ∧ ∃ b, v = .int k b)
  | [], v, h => by simp only [evMax, Option.some.injEq] at h; subst h; exact ⟨rfl, _, rfl⟩
  | u :: r, v, h => by
    cases u <;> simp only [evMax] at h <;> try (simp at h; done)
    split at h
    · rename_i e; subst e
      obtain ⟨h1, b, rfl⟩ := evMax_int h
      exact ⟨by simpa [renL, renV, evMax] using h1, b, rfl⟩
    · simp at h
theorem evLen_ren {a : V} {i : Int} (va : vld ρ a) (h1 : evLen h a = some i) (hn : (renH ρ h ++ hf).ns.Nodup) : evLen (renH ρ h ++ hf) (renV ρ a) = some i := by
  unfold evLen at h1
  split at h1
  all_goals try (simp only [Option.some.injEq] at h1; subst h1; rfl)
  all_goals try (obtain ⟨c, hc⟩ := va; simp only [Option.some.injEq] at h1; subst h1; simp only [renV, hc, evLen]; done)
  · obtain ⟨c, hc⟩ := va
    split at h1
    · rename_i hg
      have hg' := hget_ren hg hn
      simp only [Option.some.injEq] at h1; subst h1
      rw [ky_eq hc] at hg'
      simp only [renV, hc, evLen, hg', renO, List.length_map]
    · simp at h1
  · simp at h1
theorem lenFits_ren {T : TypeId} {a : V} (va : vld ρ a) : lenFits P T (renV ρ a) = lenFits P T a := by
  cases a <;> first | rfl | (obtain ⟨c, hc⟩ := va; simp only [renV, hc]; rfl)
def vldT (ρ : Nat → Option Nat) (m : Fl) : Prop := ∀ i v, lk m i = some v → vld ρ v
theorem vldT_of {F : Froz} {n : Nat} {tm : Array Value} (hf : FrR F n (renT ρ m) tm) : vldT ρ m := fun i v hv => by
  obtain ⟨x, _, r⟩ := hf.at_ i (renV ρ v) (by simp [renT, hv])
  exact vld_of r
theorem vld_dry {v : V} (h : dry v = true) : vld ρ v := by cases v <;> simp_all [dry, vld]
theorem evX_vld (ht : vldT ρ m) {x : Operand} {v : V} (h : evX m x = some v) : vld ρ v := by
  cases x with
  | tmp i => exact ht i v h
  | const x => exact vld_dry (ofConst_dry h)
  | func f => simp only [evX, Option.some.injEq] at h; subst h; trivial
  | global g => simp [evX] at h
theorem xP_ren {o : Oper} {v : V} (ht : vldT ρ m) (hv : xP P m h o = some v) (hn : (renH ρ h ++ hf).ns.Nodup) : evP P (renT ρ m) (renH ρ h ++ hf) o = some (renV ρ v) := by
  unfold xP at hv
  unfold evP
  split at hv <;> rename_i hop <;> try simp only [hop]
  · exact evX_ren hv
  · exact evX_ren hv
  · split at hv
    · rename_i ha
      obtain ⟨c, hc⟩ := evX_vld ht ha
      split at hv
      · rename_i hg
        have hg' := hget_ren hg hn
        rw [ky_eq hc] at hg'
        simp only [evX_ren ha, renV, hc, Option.bind_some, evLoad, hg', renO]
        exact ldAt_ren hv
      · simp at hv
    · simp at hv
  · split at hv <;> first
      | (rename_i ha; simp only [Option.some.injEq] at hv; subst hv; simp only [evX_ren ha, renV]; done)
      | (rename_i ha; obtain ⟨c, hc⟩ := evX_vld ht ha; simp only [Option.some.injEq] at hv; subst hv; simp only [evX_ren ha, renV, hc]; done)
      | (simp at hv; done)
  · split at hv
    · rename_i ha
      split at hv
      · rename_i hb
        simp only [evX_ren ha, evX_ren hb]
        exact xBin_ren (evX_vld ht ha) hv
      · simp at hv
    · simp at hv
  · split at hv
    · rename_i ha
      simp only [evX_ren ha, Option.bind_some]
      exact evUn_ren hv
    · simp at hv
  · split at hv
    · rename_i ha
      simp only [evX_ren ha, Option.bind_some, renV]
      unfold evConv at hv ⊢
      simp only at hv ⊢
      split at hv
      · simp only [Option.some.injEq] at hv; subst hv; rfl
      · split at hv
        · rename_i hc; simp only [Option.some.injEq] at hv; subst hv; rw [if_pos hc]; rfl
        · simp at hv
      · simp at hv
    · rename_i ha
      simp only [evX_ren ha, Option.bind_some, renV]
      unfold evConv at hv ⊢
      simp only at hv ⊢
      split at hv
      · rename_i hc; simp only [Option.some.injEq] at hv; subst hv; rw [if_pos hc]; rfl
      · simp at hv
    · simp at hv
  · split at hv
    · rename_i hf
      simp only [Option.map_eq_some_iff] at hv
      obtain ⟨vs, hvs, rfl⟩ := hv
      rw [if_pos hf, evXs_ren hvs]; rfl
    · simp at hv
  · split at hv
    · rename_i ha
      simp only [evX_ren ha, Option.bind_some]
      exact evField_ren (evX_vld ht ha) hv
    · simp at hv
  · split at hv
    · rename_i ha
      simp only [evX_ren ha, Option.bind_some]
      exact evFieldV_ren hv
    · simp at hv
  · split at hv
    · rename_i ha
      simp only [evX_ren ha, Option.bind_some]
      exact evExtract_ren hv
    · simp at hv
  · split at hv
    · rename_i hps
      split at hv
      · rename_i hpl
        split at hv
        · rename_i hz
          split at hv
          · rename_i hfl
            simp only [Option.some.injEq] at hv; subst hv
            have := evFill_ren (ρ := ρ) hfl
            rw [dryL1_ren ρ (tzero_dry hz)] at this
            simp only [evXp_ren hps, Option.bind_some, evBuild, hpl, hz, this, Option.map_some, renV]
          · simp at hv
        · simp at hv
      · simp at hv
    · simp at hv
  · split at hv <;> rename_i hc <;> try simp only [hc]
    · split at hv
      · rename_i h1 h2
        simp only [h1, h2]
        split at hv
        · rename_i ha
          split at hv
          · rename_i hl
            simp only [Option.map_eq_some_iff] at hv
            obtain ⟨i, hi, rfl⟩ := hv
            simp only [evX_ren ha, lenFits_ren (evX_vld ht ha), hl, if_true, evLen_ren (evX_vld ht ha) hi hn, Option.map_some]; rfl
          · simp at hv
        · simp at hv
      · simp at hv
    · split at hv
      · rename_i h1
        simp only [evXs_ren h1, renL, renV]
        exact (evMin_int hv).1
      · simp at hv
    · split at hv
      · rename_i h1
        simp only [evXs_ren h1, renL, renV]
        exact (evMax_int hv).1
      · simp at hv
    · simp at hv
  · simp at hv
end Go.Fw
