/- A part of the proof: CxA -/
import Derived.Test.YtmohgegpcfkooaaGreatDoorLwS
set_option linter.all false
set_option linter.unusedSectionVars false
set_option linter.unusedVariables false
set_option linter.unusedSimpArgs false
namespace Go.Fw
class Yl where
  l : Nat
variable [Gl] [Yl]
omit [Yl] in
def BIG : Nat := 4611686018427387904
omit [Yl] in
def cf (ν : Nat → Nat) (b c : Nat) : Nat := bif Nat.beq c BIG then ν b else c
omit [Yl] in
def nf (ν : Nat → Nat) (b n : Nat) : Nat := bif Nat.ble BIG n then ν b * (n - BIG) else n
omit [Yl] in
def isY : List V → Bool
  | [.tup []] => true
  | _ => false
mutual
def fixV (ν : Nat → Nat) : V → V
  | .slice b o l c => .slice b o l (cf ν b c)
  | .clo f cs => bif isY cs then .yield Yl.l else .clo f (fixL ν cs)
  | .iface t v => .iface t (fixV ν v)
  | .agg cs => .agg (fixL ν cs)
  | .tup cs => .tup (fixL ν cs)
  | v => v
def fixL (ν : Nat → Nat) : List V → List V
  | [] => []
  | v :: r => fixV ν v :: fixL ν r
end
variable {ν : Nat → Nat}
theorem fixL_map (ν : Nat → Nat) : ∀ l : List V, fixL ν l = l.map (fixV ν)
  | [] => by simp [fixL]
  | v :: r => by simp [fixL, fixL_map ν r]
@[simp] theorem fixL_length (ν : Nat → Nat) (l : List V) : (fixL ν l).length = l.length := by simp [fixL_map]
theorem fixL_get (ν : Nat → Nat) (l : List V) (i : Nat) : (fixL ν l)[i]? = (l[i]?).map (fixV ν) := by simp [fixL_map]
theorem fixL_take (ν : Nat → Nat) (l : List V) (i : Nat) : (fixL ν l).take i = fixL ν (l.take i) := by simp [fixL_map, List.map_take]
theorem fixL_drop (ν : Nat → Nat) (l : List V) (i : Nat) : (fixL ν l).drop i = fixL ν (l.drop i) := by simp [fixL_map, List.map_drop]
theorem fixL_append (ν : Nat → Nat) (a b : List V) : fixL ν (a ++ b) = fixL ν a ++ fixL ν b := by simp [fixL_map]
theorem fixL_set (ν : Nat → Nat) (l : List V) (i : Nat) (v : V) : (fixL ν l).set i (fixV ν v) = fixL ν (l.set i v) := by simp [fixL_map, List.map_set]
theorem isY_dry {l : List V} (h : l.all dryV1 = true) : isY l = false := by
  unfold isY
  split
  · simp [dryV1] at h
  · rfl
theorem fixV_clo (ν : Nat → Nat) {f : FuncId} {cs : List V} (h : isY cs = false) : fixV ν (.clo f cs) = .clo f (fixL ν cs) := by simp only [fixV, h, cond_false]
theorem dryV0_fix (ν : Nat → Nat) {v : V} (h : dryV0 v = true) : fixV ν v = v := by cases v <;> simp_all [dryV0, fixV]
theorem dryL0_fix (ν : Nat → Nat) {l : List V} (h : l.all dryV0 = true) : fixL ν l = l := by
  rw [fixL_map]
  conv => rhs; rw [← List.map_id l]
  exact List.map_congr_left fun v hv => dryV0_fix ν (List.all_eq_true.1 h v hv)
theorem dryV1_fix (ν : Nat → Nat) {v : V} (h : dryV1 v = true) : fixV ν v = v := by
  cases v with
  | clo f cs => simp only [dryV1] at h; rw [fixV_clo ν (isY_dry (dryL0_1 h)), dryL0_fix ν h]
  | _ => simp_all [dryV1, fixV]
theorem dryL1_fix (ν : Nat → Nat) {l : List V} (h : l.all dryV1 = true) : fixL ν l = l := by
  rw [fixL_map]
  conv => rhs; rw [← List.map_id l]
  exact List.map_congr_left fun v hv => dryV1_fix ν (List.all_eq_true.1 h v hv)
theorem dry_fix (ν : Nat → Nat) {v : V} (h : dry v = true) : fixV ν v = v := by
  cases v with
  | clo f cs => simp only [dry] at h; rw [fixV_clo ν (isY_dry h), dryL1_fix ν h]
  | iface t v => simp only [dry] at h; rw [fixV, dryV1_fix ν h]
  | agg cs => simp only [dry] at h; rw [fixV, dryL1_fix ν h]
  | tup cs =>
    simp only [dry] at h
    rw [fixV, fixL_map]
    congr 1
    conv => rhs; rw [← List.map_id cs]
    refine List.map_congr_left fun v hv => ?_
    have h1 := List.all_eq_true.1 h v hv
    cases v with
    | agg l => rw [fixV, dryL1_fix ν h1]; rfl
    | _ => exact dryV1_fix ν h1
  | _ => simp_all [dry, fixV]
theorem dryL_fix (ν : Nat → Nat) {l : List V} (h : l.all dry = true) : fixL ν l = l := by
  rw [fixL_map]
  conv => rhs; rw [← List.map_id l]
  exact List.map_congr_left fun v hv => dry_fix ν (List.all_eq_true.1 h v hv)
theorem flat_fix {v : V} (h : flat v = true) : fixV ν v = v := by cases v <;> simp_all [flat, fixV]
def fixO (ν : Nat → Nat) (b : Nat) : AObj → AObj
  | .cells T cs n => .cells T (fixL ν cs) (nf ν b n)
  | .map es => .map (es.map fun e => (fixV ν e.1, fixV ν e.2))
  | o => o
def fixH (ν : Nat → Nat) (h : Hp) : Hp := h.map fun p => (p.1, fixO ν p.1 p.2)
def fixM (ν : Nat → Nat) (m : Fl) : Fl := m.map fun p => (p.1, fixV ν p.2)
@[simp] theorem fixH_nil (ν : Nat → Nat) : fixH ν [] = [] := rfl
@[simp] theorem fixH_cons (ν : Nat → Nat) (p : Nat × AObj) (h : Hp) : fixH ν (p :: h) = (p.1, fixO ν p.1 p.2) :: fixH ν h := rfl
theorem fixH_app (ν : Nat → Nat) (a b : Hp) : fixH ν (a ++ b) = fixH ν a ++ fixH ν b := by simp [fixH]
theorem fixH_ns (ν : Nat → Nat) (h : Hp) : (fixH ν h).ns = h.ns := by simp [fixH, Hp.ns]
@[simp] theorem fixM_cons (ν : Nat → Nat) (d : Nat) (v : V) (m : Fl) : fixM ν ((d, v) :: m) = (d, fixV ν v) :: fixM ν m := rfl
theorem lk_fix (ν : Nat → Nat) : ∀ (m : Fl) (i : Nat), lk (fixM ν m) i = (lk m i).map (fixV ν)
  | [], i => rfl
  | (j, v) :: r, i => by
    simp only [fixM_cons, lk]
    cases Nat.beq i j with
    | true => rfl
    | false => exact lk_fix ν r i
theorem hget_fix (ν : Nat → Nat) : ∀ (h : Hp) (k : Nat), hget (fixH ν h) k = (hget h k).map (fixO ν k)
  | [], k => rfl
  | p :: r, k => by
    simp only [fixH_cons, hget]
    by_cases e : p.1 = k
    · subst e; rw [if_pos rfl, if_pos rfl]; rfl
    · rw [if_neg e, if_neg e]; exact hget_fix ν r k
theorem hset_fix (ν : Nat → Nat) (o : AObj) : ∀ (h : Hp) (k : Nat), hset (fixH ν h) k (fixO ν k o) = fixH ν (hset h k o)
  | [], k => rfl
  | p :: r, k => by
    simp only [fixH_cons, hset]
    by_cases e : p.1 = k
    · subst e; rw [if_pos rfl, if_pos rfl]; rfl
    · rw [if_neg e, if_neg e, hset_fix ν o r k]; rfl
theorem hdel_fix (ν : Nat → Nat) : ∀ (h : Hp) (k : Nat), hdel (fixH ν h) k = fixH ν (hdel h k)
  | [], k => rfl
  | p :: r, k => by
    simp only [fixH_cons, hdel]
    by_cases e : p.1 = k
    · rw [if_pos e, if_pos e]
    · rw [if_neg e, if_neg e, hdel_fix ν r k]; rfl
variable {P : Program} {m : Fl} {h : Hp}
theorem evX_fix {x : Operand} {v : V} (h : evX m x = some v) : evX (fixM ν m) x = some (fixV ν v) := by
  cases x with
  | tmp i => simp only [evX] at h ⊢; rw [lk_fix, h]; rfl
  | const x => simp only [evX] at h ⊢; rw [h, dry_fix ν (ofConst_dry h)]
  | func f => simp only [evX, Option.some.injEq] at h; subst h; rfl
  | global g => simp [evX] at h
theorem evXs_fix : ∀ {xs : List Operand} {vs : List V}, evXs m xs = some vs → evXs (fixM ν m) xs = some (fixL ν vs)
  | [], vs, h => by simp only [evXs, Option.some.injEq] at h; subst h; rfl
  | x :: r, vs, h => by
    simp only [evXs] at h
    split at h
    · rename_i v e1
      split at h
      · rename_i vs' e2
        simp only [Option.some.injEq] at h
        subst h
        simp only [evXs, evX_fix e1, evXs_fix e2, fixL]
      · simp at h
    · simp at h
theorem evXp_fix : ∀ {xs : List (Nat × Operand)} {vs : List (Nat × V)}, evXp m xs = some vs → evXp (fixM ν m) xs = some (vs.map fun p => (p.1, fixV ν p.2))
  | [], vs, h => by simp only [evXp, Option.some.injEq] at h; subst h; rfl
  | (i, x) :: r, vs, h => by
    simp only [evXp] at h
    split at h
    · rename_i v e1
      split at h
      · rename_i vs' e2
        simp only [Option.some.injEq] at h
        subst h
        simp only [evXp, evX_fix e1, evXp_fix e2, List.map_cons]
      · simp at h
    · simp at h
theorem ldAt_fix {T : TypeId} {cs : List V} {o : Nat} {v : V} (h : ldAt P T cs o = some v) : ldAt P T (fixL ν cs) o = some (fixV ν v) := by
  unfold ldAt at h ⊢
  split at h
  · rename_i ht
    split at h
    · split at h
      · rename_i hl
        simp only [Option.some.injEq] at h
        subst h
        rw [if_pos (by simpa using hl), fixL_drop, fixL_take, fixV]
      · simp at h
    · simp at h
  · rename_i ht
    rw [fixL_get, h]; rfl
  · simp at h
theorem evPart_fix {T : TypeId} {cs : List V} {o : Nat} {v : V} (h : evPart P T cs o = some v) : evPart P T (fixL ν cs) o = some (fixV ν v) := by
  have h1 : evPart P T cs o = ldAt P T cs o := rfl
  have h2 : evPart P T (fixL ν cs) o = ldAt P T (fixL ν cs) o := rfl
  rw [h2]; rw [h1] at h; exact ldAt_fix h
theorem vcells_fix (v : V) : vcells (fixV ν v) = fixL ν (vcells v) := by
  cases v with
  | clo f cs => cases hb : isY cs <;> simp [vcells, fixV, fixL, hb]
  | _ => simp [vcells, fixV, fixL]
theorem putL_fix (cs vs : List V) (o : Nat) : putL (fixL ν cs) o (fixL ν vs) = fixL ν (putL cs o vs) := by
  unfold putL
  rw [fixL_take, fixL_append, fixL_append, ← fixL_drop, fixL_length]
theorem stL_fix (cs vs : List V) (o : Nat) : stL (fixL ν cs) o (fixL ν vs) = fixL ν (stL cs o vs) := by
  match vs with
  | [] => exact putL_fix cs [] o
  | [v] => simp only [fixL, stL]; exact fixL_set ν cs o v
  | a :: b :: r => exact putL_fix cs (a :: b :: r) o
theorem evFill_fix {pl : Nat → Option (Nat × Nat)} : ∀ {ps : List (Nat × V)} {cs out : List V}, evFill pl cs ps = some out → evFill pl (fixL ν cs) (ps.map fun p => (p.1, fixV ν p.2)) = some (fixL ν out)
  | [], cs, out, h => by simp only [evFill, Option.some.injEq] at h; subst h; rfl
  | (i, v) :: r, cs, out, h => by
    simp only [evFill] at h
    simp only [List.map_cons, evFill]
    split at h
    · split at h
      · rename_i hc
        rw [vcells_fix, if_pos (by simpa using hc), putL_fix]
        exact evFill_fix h
      · simp at h
    · simp at h
theorem xBin_fix {op : BinOp} {T : TypeId} {cy : Bool} {a b v : V} (h : xBin P op T cy a b = some v) : xBin P op T cy (fixV ν a) (fixV ν b) = some (fixV ν v) := by
  have hv : flat v = true := by
    unfold xBin at h
    repeat' split at h
    all_goals first
      | (simp at h; done)
      | exact evBin_flat h
      | exact evStr_flat h
  rw [flat_fix hv]
  by_cases hd : dry a = true ∧ dry b = true
  · rw [dry_fix ν hd.1, dry_fix ν hd.2]; exact h
  · unfold xBin at h
    split at h
    · simp at h
    · rename_i hc
      split at h
      all_goals first
        | (exact absurd ⟨rfl, rfl⟩ hd)
        | (simp only [fixV, xBin]; rw [if_neg hc]; exact h)
        | (simp only [fixV, xBin]; rw [if_neg hc, ← h]; cases op <;> simp [evBin, eqFine, evEq]; done)
        | (rename_i f cs; cases hb : isY cs <;> simp only [fixV, hb, cond_true, cond_false, xBin] <;> rw [if_neg hc, ← h] <;> cases op <;> simp [evBin, eqFine, evEq, dry]; done)
        | (simp at h; done)
        | (split at h
           · rename_i hdd
             simp only [Bool.and_eq_true] at hdd
             exact absurd hdd hd
           · simp at h)
theorem evField_fix {s i : Nat} {p v : V} (h : evField P s i p = some v) : evField P s i (fixV ν p) = some (fixV ν v) := by
  unfold evField at h
  repeat' split at h
  all_goals first
    | (simp at h; done)
    | (simp only [Option.some.injEq] at h; subst h; simp only [fixV, evField, *])
theorem evFieldV_fix {T i : Nat} {p v : V} (h : evFieldV P T i p = some v) : evFieldV P T i (fixV ν p) = some (fixV ν v) := by
  unfold evFieldV at h
  split at h
  · split at h
    · rename_i h1
      simp only [fixV, evFieldV, h1]
      exact evPart_fix h
    · simp at h
  · simp at h
theorem evExtract_fix {i : Nat} {p v : V} (h : evExtract i p = some v) : evExtract i (fixV ν p) = some (fixV ν v) := by
  unfold evExtract at h
  split at h
  · simp only [fixV, evExtract, fixL_get, h]; rfl
  · simp at h
theorem evUn_fix {op : UnOp} {p v : V} (h : evUn op p = some v) : evUn op (fixV ν p) = some (fixV ν v) := by
  unfold evUn at h
  split at h
  · split at h <;> first | (simp only [Option.some.injEq] at h; subst h; rfl) | simp at h
  · split at h <;> first | (simp only [Option.some.injEq] at h; subst h; rfl) | simp at h
  · simp at h
theorem evMin_fix {k : IntKind} {a : Int} : ∀ {vs : List V} {v : V}, evMin (.int k a) vs = some v → (evMin (.int k a) (fixL ν vs) = some (fixV ν v) ∧ ∃ b, v = .int k b)
  | [], v, h => by simp only [evMin, Option.some.injEq] at h; subst h; exact ⟨rfl, _, rfl⟩
  | u :: r, v, h => by
    cases u <;> simp only [evMin] at h <;> try (simp at h; done)
    split at h
    · rename_i e; subst e
      obtain ⟨h1, b, rfl⟩ := evMin_fix h
      exact ⟨by simpa [fixL, fixV, evMin] using h1, b, rfl⟩
    · simp at h
theorem evMax_fix {k : IntKind} {a : Int} : ∀ {vs : List V} {v : V}, evMax (.int k a) vs = some v → (evMax (.int k a) (fixL ν vs) = some (fixV ν v) ∧ ∃ b, v = .int k b)
  | [], v, h => by simp only [evMax, Option.some.injEq] at h; subst h; exact ⟨rfl, _, rfl⟩
  | u :: r, v, h => by
    cases u <;> simp only [evMax] at h <;> try (simp at h; done)
    split at h
    · rename_i e; subst e
      obtain ⟨h1, b, rfl⟩ := evMax_fix h
      exact ⟨by simpa [fixL, fixV, evMax] using h1, b, rfl⟩
    · simp at h
theorem evLen_fix {a : V} {i : Int} (h1 : evLen h a = some i) : evLen (fixH ν h) (fixV ν a) = some i := by
  unfold evLen at h1
  split at h1
  all_goals try (simp only [Option.some.injEq] at h1; subst h1; rfl)
  · split at h1
    · rename_i hg
      simp only [Option.some.injEq] at h1; subst h1
      simp only [fixV, evLen, hget_fix, hg, Option.map_some, fixO, List.length_map]
    · simp at h1
  · simp at h1
theorem lenFits_fix {T : TypeId} {a : V} : lenFits P T (fixV ν a) = lenFits P T a := by
  cases a with
  | clo f cs => cases hb : isY cs <;> simp [lenFits, fixV, hb]
  | _ => rfl
theorem xP_fix {o : Oper} {v : V} (hy : ∀ f first caps, o.op = .makeFunc (.func f) first caps → ∀ vs, evXs m caps.toList = some vs → isY vs = false) (hv : xP P m h o = some v) : xP P (fixM ν m) (fixH ν h) o = some (fixV ν v) := by
  unfold xP at hv ⊢
  split at hv <;> rename_i hop <;> try simp only [hop]
  · exact evX_fix hv
  · exact evX_fix hv
  · split at hv
    · rename_i ha
      split at hv
      · rename_i hg
        simp only [evX_fix ha, fixV, hget_fix, hg, Option.map_some, fixO]
        exact ldAt_fix hv
      · simp at hv
    · simp at hv
  · split at hv <;> first
      | (rename_i ha; simp only [Option.some.injEq] at hv; subst hv; simp only [evX_fix ha, fixV]; done)
      | (rename_i f cs ha; simp only [Option.some.injEq] at hv; subst hv; rw [evX_fix ha]; cases hb : isY cs <;> simp only [fixV, hb, cond_true, cond_false]; done)
      | (simp at hv; done)
  · split at hv
    · rename_i ha
      split at hv
      · rename_i hb
        simp only [evX_fix ha, evX_fix hb]
        exact xBin_fix hv
      · simp at hv
    · simp at hv
  · split at hv
    · rename_i ha
      simp only [evX_fix ha]
      exact evUn_fix hv
    · simp at hv
  · split at hv
    · rename_i ha
      simp only [evX_fix ha, fixV]
      unfold evConv at hv ⊢
      simp only at hv ⊢
      split at hv
      · simp only [Option.some.injEq] at hv; subst hv; rfl
      · split at hv
        · rename_i hc; simp only [Option.some.injEq] at hv; subst hv; rw [if_pos hc]; rfl
        · simp at hv
      · simp at hv
    · rename_i ha
      simp only [evX_fix ha, fixV]
      unfold evConv at hv ⊢
      simp only at hv ⊢
      split at hv
      · rename_i hc; simp only [Option.some.injEq] at hv; subst hv; rw [if_pos hc]; rfl
      · simp at hv
    · simp at hv
  · split at hv
    · rename_i hf
      simp only [Option.map_eq_some_iff] at hv
      obtain ⟨vs, hvs, rfl⟩ := hv
      rw [if_pos hf, evXs_fix hvs, fixV_clo ν (hy _ _ _ hop _ hvs)]; rfl
    · simp at hv
  · split at hv
    · rename_i ha
      simp only [evX_fix ha]
      exact evField_fix hv
    · simp at hv
  · split at hv
    · rename_i ha
      simp only [evX_fix ha]
      exact evFieldV_fix hv
    · simp at hv
  · split at hv
    · rename_i ha
      simp only [evX_fix ha]
      exact evExtract_fix hv
    · simp at hv
  · split at hv
    · rename_i hps
      split at hv
      · rename_i hpl
        split at hv
        · rename_i hz
          split at hv
          · rename_i hfl
            simp only [Option.some.injEq] at hv; subst hv
            have := evFill_fix (ν := ν) hfl
            rw [dryL1_fix ν (tzero_dry hz)] at this
            simp only [evXp_fix hps, hpl, hz, this, fixV]
          · simp at hv
        · simp at hv
      · simp at hv
    · simp at hv
  · split at hv <;> rename_i hc <;> try simp only [hc]
    · split at hv
      · rename_i ha hT
        split at hv
        · rename_i hx
          split at hv
          · rename_i hl
            simp only [Option.map_eq_some_iff] at hv
            obtain ⟨i, hi, rfl⟩ := hv
            simp only [ha, hT, evX_fix hx, lenFits_fix, hl, evLen_fix hi, Option.map_some, fixV]
          · simp at hv
        · simp at hv
      · simp at hv
    · split at hv
      · rename_i ha
        obtain ⟨h1, b, rfl⟩ := evMin_fix (ν := ν) hv
        simp only [evXs_fix ha, fixL, fixV] at h1 ⊢
        exact h1
      · simp at hv
    · split at hv
      · rename_i ha
        obtain ⟨h1, b, rfl⟩ := evMax_fix (ν := ν) hv
        simp only [evXs_fix ha, fixL, fixV] at h1 ⊢
        exact h1
      · simp at hv
    · simp at hv
  · simp at hv
end Go.Fw
