/- A part of the proof: FwH -/
import Derived.Test.YtmohgegpcfkooaaGreatDoorFwG
import Derived.Laws.Tables
set_option linter.all false
set_option linter.unusedSectionVars false
set_option linter.unusedVariables false
set_option linter.unusedSimpArgs false
namespace Go.Fw
variable [Gl]
def putL (cs : List V) (o : Nat) (vs : List V) : List V := cs.take o ++ vs ++ cs.drop (o + vs.length)
theorem putL_length {cs : List V} {o : Nat} {vs : List V} (h : o + vs.length ≤ cs.length) : (putL cs o vs).length = cs.length := by
  simp [putL]; omega
theorem putL_get {cs : List V} {o : Nat} {vs : List V} (h : o + vs.length ≤ cs.length) (i : Nat) : (putL cs o vs)[i]? = if o ≤ i ∧ i < o + vs.length then vs[i - o]? else cs[i]? := by
  unfold putL
  by_cases h1 : i < o
  · rw [if_neg (by omega), List.append_assoc, List.getElem?_append_left (by simp; omega), List.getElem?_take_of_lt h1]
  · by_cases h2 : i < o + vs.length
    · rw [if_pos ⟨by omega, h2⟩, List.append_assoc, List.getElem?_append_right (by simp; omega), List.getElem?_append_left (by simp; omega)]
      congr 1
      simp; omega
    · rw [if_neg (by omega), List.getElem?_append_right (by simp; omega), List.getElem?_drop]
      congr 1
      simp; omega
def vcells : V → List V
  | .agg cs => cs
  | v => [v]
theorem vr_cells {F : Froz} {v : V} {x : Value} (h : VR F v x) : VRs F (vcells v) x.cells := by
  cases h <;> first
    | (rename_i hl h2; exact ⟨hl, h2⟩)
    | exact ⟨rfl, fun i u hu => by
        cases i with
        | zero => simp [vcells] at hu; subst hu; simp [Value.cells]; constructor <;> assumption
        | succ i => simp [vcells] at hu⟩
theorem vrs_put {F : Froz} {cs us : List V} {cv uv : Array Value} (h : VRs F cs cv) (hu : VRs F us uv) {o : Nat} (ho : o + us.length ≤ cs.length) : VRs F (putL cs o us) (putA cv o uv.toList) := by
  have hs : uv.toList.length = us.length := by simpa using hu.1
  refine ⟨by rw [putA_size, putL_length ho, h.1], fun i v hv => ?_⟩
  have hi : i < cs.length := by rw [← putL_length ho]; exact (List.getElem?_eq_some_iff.1 hv).1
  rw [putL_get ho] at hv
  rw [Array.getD_eq_getD_getElem?, putA_get]
  by_cases hc : o ≤ i ∧ i < o + us.length
  · rw [if_pos hc] at hv
    rw [if_pos ⟨hc.1, by rw [hs]; exact hc.2, by rw [h.1]; exact hi⟩]
    obtain ⟨x, hx, r⟩ := vrs_get hu hv
    rw [Array.getElem?_toList, hx]; exact r
  · rw [if_neg hc] at hv
    rw [if_neg (fun h => hc ⟨h.1, by rw [← hs]; exact h.2.1⟩)]
    obtain ⟨x, hx, r⟩ := vrs_get h hv
    rw [hx]; exact r
theorem fill_fold (vs : List Value) : ∀ (j : Nat) (off : Nat) (cs : Array Value), (vs.zipIdx j).foldl (fun cs (c, j) => cs.setIfInBounds (off + j) c) cs = putA cs (off + j) vs := by
  induction vs with
  | nil => intro j off cs; rfl
  | cons v r ih =>
    intro j off cs
    simp only [List.zipIdx_cons, List.foldl_cons, putA]
    rw [ih (j + 1) off]
    rfl
def evFill (pl : Nat → Option (Nat × Nat)) (cs : List V) : List (Nat × V) → Option (List V)
  | [] => some cs
  | (i, v) :: r => match pl i with
    | some (off, size) => if (vcells v).length = size ∧ off + size ≤ cs.length then evFill pl (putL cs off (vcells v)) r else none
    | none => none
def PRs (F : Froz) : List (Nat × V) → List (Nat × Value) → Prop
  | [], [] => True
  | (i, v) :: r, (j, x) :: s => i = j ∧ VR F v x ∧ PRs F r s
  | _, _ => False
theorem evFill_run {F : Froz} {pl pl' : Nat → Option (Nat × Nat)} (hpl : ∀ i x, pl i = some x → pl' i = some x) : ∀ (ps : List (Nat × V)) (pv : List (Nat × Value)) (cs : List V) (cv : Array Value) (out : List V), PRs F ps pv → VRs F cs cv →
    evFill pl cs ps = some out → ∃ ov, Instr.fill pl' cv pv = some ov ∧ VRs F out ov
  | [], [], cs, cv, out, _, hc, h => by
    simp only [evFill, Option.some.injEq] at h; subst h
    exact ⟨cv, rfl, hc⟩
  | [], _ :: _, _, _, _, hp, _, _ => hp.elim
  | _ :: _, [], _, _, _, hp, _, _ => hp.elim
  | (i, v) :: r, (j, x) :: s, cs, cv, out, hp, hc, h => by
    obtain ⟨rfl, hv, hr⟩ := hp
    simp only [evFill] at h
    split at h
    · rename_i off size hi
      split at h
      · rename_i hl
        have hx := vr_cells hv
        obtain ⟨ov, h1, h2⟩ := evFill_run hpl r s _ _ out hr (vrs_put hc hx (by rw [hl.1]; exact hl.2)) h
        refine ⟨ov, ?_, h2⟩
        simp only [Instr.fill, hpl _ _ hi]
        have e1 : x.cells.size = size := by rw [hx.1]; exact hl.1
        have e2 : ¬ (off + x.cells.size > cv.size) := by rw [e1, hc.1]; omega
        rw [if_neg (by simp [e1]; rw [hc.1]; omega)]
        have := fill_fold x.cells.toList 0 off cv
        rw [← Array.foldl_toList, Array.toList_zipIdx, this]
        exact h1
      · simp at h
    · simp at h
def evParts (t : Fr) : List (Nat × Operand) → Option (List (Nat × V))
  | [] => some []
  | (i, x) :: r => match evO t x, evParts t r with
    | some v, some vs => some ((i, v) :: vs)
    | _, _ => none
theorem evParts_run {F : Froz} {n : Nat} {t : Fr} {tm : Array Value} {ds : List Deferred} (hf : FrR F n t tm) : ∀ {xs : List (Nat × Operand)} {ps : List (Nat × V)}, evParts t xs = some ps →
    PRs F ps (xs.map fun p => (p.1, Act.eval ⟨tm, ds⟩ p.2))
  | [], ps, h => by simp only [evParts, Option.some.injEq] at h; subst h; trivial
  | (i, x) :: r, ps, h => by
    simp only [evParts] at h
    split at h
    · rename_i v vs e1 e2
      simp only [Option.some.injEq] at h; subst h
      exact ⟨rfl, evO_r hf e1, evParts_run hf e2⟩
    · simp at h
def tpls (P : Program) (T : TypeId) : Option (List (Nat × Nat)) := match P.underlying T with
  | some (.struct fs) => fs.toList.mapM fun f => (P.info? f.type).map fun i => (f.offset, i.size)
  | _ => none
def evBuild (P : Program) (T : TypeId) (ps : List (Nat × V)) : Option V := match tpls P T, tzero P T with
  | some pl, some z => (evFill (fun i => pl[i]?) z ps).map .agg
  | _, _ => none
theorem evBuild_run {P : Program} {F : Froz} {w : World} {T : TypeId} {ps : List (Nat × V)} {pv : Array (Nat × Value)} {v : V} (hp : PRs F ps pv.toList) (hv : evBuild P T ps = some v) :
    ∃ y, (Instr.build T pv).run P w = .ok y w ∧ VR F v y := by
  unfold evBuild at hv
  split at hv
  · rename_i pl z h1 h2
    cases hfl : evFill (fun i => pl[i]?) z ps with
    | none => simp [hfl] at hv
    | some out =>
      rw [hfl] at hv
      simp only [Option.map_some, Option.some.injEq] at hv; subst hv
      unfold tpls at h1
      split at h1
      · rename_i fs hu
        unfold tzero at h2
        cases hi : P.info? T with
        | none => simp [hi] at h2
        | some i =>
          rw [hi] at h2
          simp only [Option.bind_some] at h2
          cases hz : i.zero with
          | none => simp [hz] at h2
          | some zv =>
            rw [hz] at h2
            simp only [Option.bind_some] at h2
            obtain ⟨a, b⟩ := ofLeaves_r (F := F) h2
            have hzr : VRs F z zv.cells := ⟨by rw [a]; simp, fun i v hv => by rw [← getD_toList]; exact b i v hv⟩
            obtain ⟨ov, o1, o2⟩ := evFill_run (F := F) (pl := fun i => pl[i]?) (pl' := fun i => pl.toArray[i]?) (fun i x h => by simpa using h) ps pv.toList z zv.cells out hp hzr hfl
            refine ⟨.agg ov, run_build w T pv ov ?_, VR.of_agg o2⟩
            simp only [Program.built, hi, hu, hz, h1]
            exact o1
      · simp at h1
  · simp at hv
def evLen (h : Hp) : V → Option Int
  | .str s => some s.length
  | .nilslice => some 0
  | .slice _ _ len _ => some len
  | .fslice _ len => some len
  | .eslice => some 0
  | .nilmap => some 0
  | .map b => match hget h b with
    | some (.map es) => some es.length
    | _ => none
  | _ => none
def lenFits (P : Program) (T : TypeId) : V → Bool
  | .str _ => tisstr P T
  | .nilslice | .slice _ _ _ _ | .fslice _ _ | .eslice => (tslice P T).isSome
  | .nilmap | .map _ => tkd P T = some 3
  | _ => false
theorem evLen_run {P : Program} {F : Froz} {h : Hp} {w : World} (ho : Own F h w) {T ty : TypeId} {a : V} {x : Value} {i : Int} (hx : VR F a x) (hv : evLen h a = some i) (hT : lenFits P T a = true) :
    (Builtin.len_ #[T] ty #[x]).run P w = .ok (.int .i64 i) w := by
  cases a <;> simp only [evLen, lenFits] at hv hT <;> try (first | (simp at hv; done) | (simp at hT; done))
  · obtain rfl := hx.str_inv
    simp only [Option.some.injEq] at hv; subst hv
    simp [Builtin.len_, Sem.run_bind, tund_run (tisstr_und hT), goInt, ba_size]
  · obtain rfl := hx.nilslice_inv
    obtain ⟨e, he⟩ := Option.isSome_iff_exists.1 hT
    simp only [Option.some.injEq] at hv; subst hv
    simp [Builtin.len_, Sem.run_bind, tund_run (tslice_und he), goInt]
  · obtain rfl := hx.slice_inv
    obtain ⟨e, he⟩ := Option.isSome_iff_exists.1 hT
    simp only [Option.some.injEq] at hv; subst hv
    simp [Builtin.len_, Sem.run_bind, tund_run (tslice_und he), goInt]
  · obtain ⟨e, he⟩ := Option.isSome_iff_exists.1 hT
    simp only [Option.some.injEq] at hv; subst hv
    rcases hx.fslice_inv with ⟨rfl, rfl, rfl⟩ | ⟨a, cap, g, rfl, _⟩ <;> simp [Builtin.len_, Sem.run_bind, tund_run (tslice_und he), goInt]
  · obtain ⟨a, rfl⟩ := hx.eslice_inv
    obtain ⟨e, he⟩ := Option.isSome_iff_exists.1 hT
    simp only [Option.some.injEq] at hv; subst hv
    simp [Builtin.len_, Sem.run_bind, tund_run (tslice_und he), goInt]
  · obtain rfl := hx.nilmap_inv
    obtain ⟨k, e, he⟩ := tund_map (by simpa using hT)
    simp only [Option.some.injEq] at hv; subst hv
    simp [Builtin.len_, Sem.run_bind, tund_run he, goInt]
  · obtain rfl := hx.map_inv
    obtain ⟨k, e, he⟩ := tund_map (by simpa using hT)
    split at hv
    · rename_i b es hg
      obtain ⟨y, hy, r⟩ := ho.get hg
      cases r with
      | map _ xs clock hl _ _ _ =>
        simp only [Option.some.injEq] at hv; subst hv
        simp [Builtin.len_, Sem.run_bind, tund_run he, goInt, getObj, Sem.run, hy, hl]
    · simp at hv
def evMin : V → List V → Option V
  | v, [] => some v
  | .int k a, .int k' b :: r => if k = k' then evMin (.int k (if b < a then b else a)) r else none
  | _, _ => none
def evMax : V → List V → Option V
  | v, [] => some v
  | .int k a, .int k' b :: r => if k = k' then evMax (.int k (if b > a then b else a)) r else none
  | _, _ => none
theorem evMin_run {P : Program} {F : Froz} {w : World} : ∀ (vs : List V) (xs : List Value) (v : V) (x : Value) (u : V), VR F v x → VRs F vs xs.toArray → evMin v vs = some u →
    ∃ y, (xs.foldlM Builtin.min2 x).run P w = .ok y w ∧ VR F u y
  | [], xs, v, x, u, hx, hs, h => by
    have : xs = [] := by have := hs.1; simpa using this
    subst this
    simp only [evMin, Option.some.injEq] at h; subst h
    exact ⟨x, by simp, hx⟩
  | b :: r, xs, v, x, u, hx, hs, h => by
    cases xs with
    | nil => have := hs.1; simp at this
    | cons y ys =>
      unfold evMin at h
      split at h
      · simp at *
      · rename_i k a k' b' r' he
        simp only [List.cons.injEq] at he
        obtain ⟨rfl, rfl⟩ := he
        split at h
        · rename_i hk
          subst hk
          obtain rfl := hx.int_inv
          have hy := hs.2 0 _ rfl
          simp at hy
          obtain rfl := hy.int_inv
          have hs' : VRs F r ys.toArray := ⟨by have := hs.1; simpa using this, fun i v hv => by have := hs.2 (i + 1) v (by simpa using hv); simpa using this⟩
          obtain ⟨z, h1, h2⟩ := evMin_run r ys _ (.int k (if b' < a then b' else a)) u (.int _ _) hs' h
          exact ⟨z, by simpa [Sem.run_bind, Builtin.min2] using h1, h2⟩
        · simp at h
      · simp at h
theorem evMax_run {P : Program} {F : Froz} {w : World} : ∀ (vs : List V) (xs : List Value) (v : V) (x : Value) (u : V), VR F v x → VRs F vs xs.toArray → evMax v vs = some u →
    ∃ y, (xs.foldlM Builtin.max2 x).run P w = .ok y w ∧ VR F u y
  | [], xs, v, x, u, hx, hs, h => by
    have : xs = [] := by have := hs.1; simpa using this
    subst this
    simp only [evMax, Option.some.injEq] at h; subst h
    exact ⟨x, by simp, hx⟩
  | b :: r, xs, v, x, u, hx, hs, h => by
    cases xs with
    | nil => have := hs.1; simp at this
    | cons y ys =>
      unfold evMax at h
      split at h
      · simp at *
      · rename_i k a k' b' r' he
        simp only [List.cons.injEq] at he
        obtain ⟨rfl, rfl⟩ := he
        split at h
        · rename_i hk
          subst hk
          obtain rfl := hx.int_inv
          have hy := hs.2 0 _ rfl
          simp at hy
          obtain rfl := hy.int_inv
          have hs' : VRs F r ys.toArray := ⟨by have := hs.1; simpa using this, fun i v hv => by have := hs.2 (i + 1) v (by simpa using hv); simpa using this⟩
          obtain ⟨z, h1, h2⟩ := evMax_run r ys _ (.int k (if b' > a then b' else a)) u (.int _ _) hs' h
          exact ⟨z, by simpa [Sem.run_bind, Builtin.max2] using h1, h2⟩
        · simp at h
      · simp at h
end Go.Fw
