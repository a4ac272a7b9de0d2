/- A part of the proof: FwI -/
import Derived.Test.YtmohgegpcfkooaaGreatDoorFwH
set_option linter.all false
set_option linter.unusedSectionVars false
set_option linter.unusedVariables false
set_option linter.unusedSimpArgs false
namespace Go.Fw
variable [Gl]
def evP (P : Program) (t : Fr) (h : Hp) (o : Oper) : Option V :=
  match o.op with
  | .move x => evO t x
  | .assign x => evO t x
  | .pick c a b => match evO t c with
    | some (.bool x) => if x = true then evO t a else evO t b
    | _ => none
  | .load T a => (evO t a).bind (evLoad P h T)
  | .nilCheck x => match evO t x with
    | some (.ptr b o) => some (.ptr b o)
    | some (.fptr cs o) => some (.fptr cs o)
    | some (.clo f cs) => some (.clo f cs)
    | some (.yield l) => some (.yield l)
    | _ => none
  | .binOp op T x y _ => match evO t x, evO t y with
    | some a, some b => evBin P op T a b
    | _, _ => none
  | .unOp op _ x => (evO t x).bind (evUn op)
  | .convert s d x => (evO t x).bind (evConv P h s d)
  | .makeFunc (.func f) first caps => if first.toList.isEmpty then (evOs t caps.toList).map (.clo f) else none
  | .slice T x lo hi mx => match evO t x, evB t lo, evB t hi, evB t mx with
    | some a, some l, some h, some m => evSlice P T a l h m
    | _, _, _, _ => none
  | .fieldAddr s x i => (evO t x).bind (evField P s i)
  | .field T x i => (evO t x).bind (evFieldV P T i)
  | .indexAddr T x i => match evO t x, evO t i with
    | some a, some b => evIndexAddr P T a b
    | _, _ => none
  | .index T x i => match evO t x, evO t i with
    | some a, some b => evIndexV P T a b
    | _, _ => none
  | .extract x i => (evO t x).bind (evExtract i)
  | .build T parts => (evParts t parts.toList).bind (evBuild P T)
  | .call c => match c.callee with
    | .builtin .len => match c.args.toList, c.argTypes.toList with
      | [x], [T] => match evO t x with
        | some a => if lenFits P T a = true then (evLen h a).map (.int .i64) else none
        | none => none
      | _, _ => none
    | .builtin .min => match evOs t c.args.toList with
      | some (v :: vs) => evMin v vs
      | _ => none
    | .builtin .max => match evOs t c.args.toList with
      | some (v :: vs) => evMax v vs
      | _ => none
    | _ => none
  | _ => none
theorem evP_run {P : Program} {F : Froz} {n : Nat} {t : Fr} {h : Hp} {w : World} {tm : Array Value} {ds : List Deferred} (ho : Own F h w) (hf : FrR F n t tm) {o : Oper} {v : V} (hv : evP P t h o = some v) :
    (∀ c, o.op ≠ .defer c) ∧ ∃ x, (execOp (Act.eval ⟨tm, ds⟩) o).run P w = .ok (.value x) w ∧ VR F v x := by
  unfold evP at hv
  split at hv
  · rename_i x hop
    exact ⟨by simp [hop], _, by simp [execOp, hop]; rfl, evO_r hf hv⟩
  · rename_i x hop
    exact ⟨by simp [hop], _, by simp [execOp, hop]; rfl, evO_r hf hv⟩
  · rename_i c a b hop
    split at hv
    · rename_i x hc
      have hb := (evO_r (ds := ds) hf hc).bool_inv
      refine ⟨by simp [hop], ?_⟩
      cases x with
      | true => exact ⟨_, by simp [execOp, hop, hb, asBool]; rfl, evO_r (ds := ds) hf (by simpa using hv)⟩
      | false => exact ⟨_, by simp [execOp, hop, hb, asBool]; rfl, evO_r (ds := ds) hf (by simpa using hv)⟩
    · simp at hv
  · rename_i T a hop
    obtain ⟨p, hp, hl⟩ := Option.bind_eq_some_iff.1 hv
    obtain ⟨y, h1, h2⟩ := evLoad_run (P := P) ho (evO_r (ds := ds) hf hp) hl
    exact ⟨by simp [hop], y, by simp [execOp, hop, h1], h2⟩
  · rename_i x hop
    refine ⟨by simp [hop], ?_⟩
    split at hv <;> first
      | (simp at hv; done)
      | skip
    · rename_i b o hx
      simp only [Option.some.injEq] at hv; subst hv
      have := evO_r (ds := ds) hf hx
      exact ⟨_, by simp [execOp, hop, this.ptr_inv], this.ptr_inv ▸ this⟩
    · rename_i cs o hx
      simp only [Option.some.injEq] at hv; subst hv
      have := evO_r (ds := ds) hf hx
      obtain ⟨a, g, e, _⟩ := this.fptr_inv
      exact ⟨_, by simp [execOp, hop, e], e ▸ this⟩
    · rename_i f cs hx
      simp only [Option.some.injEq] at hv; subst hv
      have := evO_r (ds := ds) hf hx
      obtain ⟨vs, e, _⟩ := this.clo_inv
      exact ⟨_, by simp [execOp, hop, e], e ▸ this⟩
    · rename_i l hx
      simp only [Option.some.injEq] at hv; subst hv
      have := evO_r (ds := ds) hf hx
      exact ⟨_, by simp [execOp, hop, this.yield_inv], this.yield_inv ▸ this⟩
  · rename_i op T x y yT hop
    split at hv
    · rename_i a b ha hb
      obtain ⟨z, h1, h2⟩ := evBin_run (P := P) (w := w) (p := x) (q := y) (evO_r (ds := ds) hf ha) (evO_r (ds := ds) hf hb) hv
      exact ⟨by simp [hop], z, by simp only [execOp, hop]; rw [Sem.run_bind, h1]; rfl, h2⟩
    · simp at hv
  · rename_i op T x hop
    obtain ⟨p, hp, hl⟩ := Option.bind_eq_some_iff.1 hv
    obtain ⟨y, h1, h2⟩ := evUn_run (P := P) (w := w) (evO_r (ds := ds) hf hp) hl
    exact ⟨by simp [hop], y, by simp [execOp, hop, h1], h2⟩
  · rename_i s d x hop
    obtain ⟨p, hp, hl⟩ := Option.bind_eq_some_iff.1 hv
    obtain ⟨y, h1, h2⟩ := evConv_run (P := P) ho (evO_r (ds := ds) hf hp) hl
    exact ⟨by simp [hop], y, by simp [execOp, hop, h1], h2⟩
  · rename_i f first caps hop
    refine ⟨by simp [hop], ?_⟩
    split at hv
    · rename_i hfirst
      obtain ⟨vs, hvs, rfl⟩ := Option.map_eq_some_iff.1 hv
      have hr := evOs_r (ds := ds) hf hvs
      have e1 : first = #[] := by
        cases first with
        | mk l => cases l <;> simp_all
      refine ⟨.func (.func f) #[] (caps.map (Act.eval ⟨tm, ds⟩)), by simp [execOp, hop, Instr.makeFunc, e1], ?_⟩
      have : (caps.toList.map (Act.eval ⟨tm, ds⟩)).toArray = caps.map (Act.eval ⟨tm, ds⟩) := by rw [← Array.toList_inj, Array.toList_map]
      exact VR.of_clo (this ▸ hr)
    · simp at hv
  · rename_i T x lo hi mx hop
    split at hv
    · rename_i a l hh m ha hl hhh hm
      obtain ⟨z, h1, h2⟩ := evSlice_run (P := P) (w := w) (evO_r (ds := ds) hf ha) (evB_ok (ds := ds) hf hl) (evB_ok (ds := ds) hf hhh) (evB_ok (ds := ds) hf hm) hv
      exact ⟨by simp [hop], z, by simp only [execOp, hop]; rw [Sem.run_bind, h1]; rfl, h2⟩
    · simp at hv
  · rename_i s x i hop
    obtain ⟨p, hp, hl⟩ := Option.bind_eq_some_iff.1 hv
    obtain ⟨y, h1, h2⟩ := evField_run (P := P) (w := w) (evO_r (ds := ds) hf hp) hl
    exact ⟨by simp [hop], y, by simp [execOp, hop, h1], h2⟩
  · rename_i T x i hop
    obtain ⟨p, hp, hl⟩ := Option.bind_eq_some_iff.1 hv
    obtain ⟨y, h1, h2⟩ := evFieldV_run (P := P) (w := w) (evO_r (ds := ds) hf hp) hl
    exact ⟨by simp [hop], y, by simp [execOp, hop, h1], h2⟩
  · rename_i T x i hop
    split at hv
    · rename_i a b ha hb
      obtain ⟨z, h1, h2⟩ := evIndexAddr_run (P := P) (w := w) (evO_r (ds := ds) hf ha) (evO_r (ds := ds) hf hb) hv
      exact ⟨by simp [hop], z, by simp [execOp, hop, h1], h2⟩
    · simp at hv
  · rename_i T x i hop
    split at hv
    · rename_i a b ha hb
      obtain ⟨z, h1, h2⟩ := evIndexV_run (P := P) (w := w) (evO_r (ds := ds) hf ha) (evO_r (ds := ds) hf hb) hv
      exact ⟨by simp [hop], z, by simp [execOp, hop, h1], h2⟩
    · simp at hv
  · rename_i x i hop
    obtain ⟨p, hp, hl⟩ := Option.bind_eq_some_iff.1 hv
    obtain ⟨y, h1, h2⟩ := evExtract_run (P := P) (w := w) (evO_r (ds := ds) hf hp) hl
    exact ⟨by simp [hop], y, by simp [execOp, hop, h1], h2⟩
  · rename_i T parts hop
    obtain ⟨ps, hp, hl⟩ := Option.bind_eq_some_iff.1 hv
    have hr := evParts_run (ds := ds) hf hp
    obtain ⟨y, h1, h2⟩ := evBuild_run (P := P) (F := F) (w := w) (T := T) (ps := ps) (pv := parts.map fun (i, x) => (i, Act.eval ⟨tm, ds⟩ x)) (by simpa using hr) hl
    exact ⟨by simp [hop], y, by simp [execOp, hop, h1], h2⟩
  · rename_i c hop
    refine ⟨by simp [hop], ?_⟩
    split at hv <;> first
      | (simp at hv; done)
      | skip
    · rename_i hcal
      split at hv <;> first
        | (simp at hv; done)
        | skip
      rename_i x T ha hT
      split at hv <;> first
        | (simp at hv; done)
        | skip
      rename_i a hx
      split at hv <;> first
        | (simp at hv; done)
        | skip
      rename_i hfit
      obtain ⟨i, hi, rfl⟩ := Option.map_eq_some_iff.1 hv
      have h1 := evLen_run (P := P) (F := F) (w := w) (T := T) (ty := o.type) ho (evO_r (ds := ds) hf hx) hi hfit
      have e1 : c.args = #[x] := by rw [← Array.toList_inj]; simpa using ha
      have e2 : c.argTypes = #[T] := by rw [← Array.toList_inj]; simpa using hT
      exact ⟨_, by simp [execOp, hop, resolve, hcal, invoke, builtin, e1, e2, h1], .int _ _⟩
    · rename_i hcal
      split at hv <;> first
        | (simp at hv; done)
        | skip
      rename_i v' vs hvs
      have hr := evOs_r (ds := ds) hf hvs
      have hne : ∃ y ys, (c.args.map (Act.eval ⟨tm, ds⟩)).toList = y :: ys := by
        have := hr.1
        cases hh : (c.args.map (Act.eval ⟨tm, ds⟩)).toList with
        | nil => simp at hh; simp [hh] at this
        | cons y ys => exact ⟨y, ys, rfl⟩
      obtain ⟨y, ys, hys⟩ := hne
      have hl : c.args.toList.map (Act.eval ⟨tm, ds⟩) = y :: ys := by simpa using hys
      rw [hl] at hr
      have r0 := hr.2 0 v' rfl
      simp at r0
      have rs : VRs F vs ys.toArray := ⟨by have := hr.1; simpa using this, fun i u hu => by have := hr.2 (i + 1) u (by simpa using hu); simpa using this⟩
      obtain ⟨z, h1, h2⟩ := evMin_run (P := P) (w := w) vs ys v' y v r0 rs hv
      exact ⟨z, by simp [execOp, hop, resolve, hcal, invoke, builtin, Builtin.min_, hl, h1], h2⟩
    · rename_i hcal
      split at hv <;> first
        | (simp at hv; done)
        | skip
      rename_i v' vs hvs
      have hr := evOs_r (ds := ds) hf hvs
      have hne : ∃ y ys, (c.args.map (Act.eval ⟨tm, ds⟩)).toList = y :: ys := by
        have := hr.1
        cases hh : (c.args.map (Act.eval ⟨tm, ds⟩)).toList with
        | nil => simp at hh; simp [hh] at this
        | cons y ys => exact ⟨y, ys, rfl⟩
      obtain ⟨y, ys, hys⟩ := hne
      have hl : c.args.toList.map (Act.eval ⟨tm, ds⟩) = y :: ys := by simpa using hys
      rw [hl] at hr
      have r0 := hr.2 0 v' rfl
      simp at r0
      have rs : VRs F vs ys.toArray := ⟨by have := hr.1; simpa using this, fun i u hu => by have := hr.2 (i + 1) u (by simpa using hu); simpa using this⟩
      obtain ⟨z, h1, h2⟩ := evMax_run (P := P) (w := w) vs ys v' y v r0 rs hv
      exact ⟨z, by simp [execOp, hop, resolve, hcal, invoke, builtin, Builtin.max_, hl, h1], h2⟩
  · simp at hv
def OpS (P : Program) (ρ : Option Nat) (n : Nat) (o : Oper) (t : Fr) (h : Hp) (K : V → Hp → Prop) : Prop :=
  ∀ F w tm D (next : Act → World → Prop) (Q' : Exit → Act → World → Prop), Own F h w → FrR F n t tm →
    (∀ v x h' F' w', K v h' → Own F' h' w' → VR F' v x → Trans F h w F' h' w' → next (Act.put ⟨tm, D⟩ o.dst x) w') →
    o.uponIn (FW ρ) 0 P ⟨tm, D⟩ next Q' ((o.semAt ρ (Act.eval ⟨tm, D⟩)).run P w)
theorem OpS.mono {P : Program} {ρ : Option Nat} {n : Nat} {o : Oper} {t : Fr} {h : Hp} {K K' : V → Hp → Prop} (ho : OpS P ρ n o t h K) (hk : ∀ v h, K v h → K' v h) : OpS P ρ n o t h K' :=
  fun F w tm D next Q' h1 h2 h3 => ho F w tm D next Q' h1 h2 fun v x h' F' w' k => h3 v x h' F' w' (hk v h' k)
theorem OpS.of_value {P : Program} {ρ : Option Nat} {n : Nat} {o : Oper} {t : Fr} {h : Hp} {K : V → Hp → Prop} (hd : ∀ c, o.op ≠ .defer c)
    (H : ∀ F w tm D, Own F h w → FrR F n t tm → ∃ v x h' F' w', (execOp (Act.eval ⟨tm, D⟩) o).run P w = .ok (.value x) w' ∧ K v h' ∧ Own F' h' w' ∧ VR F' v x ∧ Trans F h w F' h' w') : OpS P ρ n o t h K := by
  intro F w tm D next Q' h1 h2 h3
  obtain ⟨v, x, h', F', w', hr, k, o', r, tr⟩ := H F w tm D h1 h2
  rw [Oper.semAt_eq _ _ _ hd, hr]
  exact h3 v x h' F' w' k o' r tr
theorem OpS.of_skip {P : Program} {ρ : Option Nat} {n : Nat} {o : Oper} {t : Fr} {h : Hp} {K : V → Hp → Prop} (hd : ∀ c, o.op ≠ .defer c)
    (H : ∀ F w tm D, Own F h w → FrR F n t tm → ∃ h' F' w', (execOp (Act.eval ⟨tm, D⟩) o).run P w = .ok .skip w' ∧ K (.tup []) h' ∧ Own F' h' w' ∧ Trans F h w F' h' w') : OpS P ρ n o t h K := by
  intro F w tm D next Q' h1 h2 h3
  obtain ⟨h', F', w', hr, k, o', tr⟩ := H F w tm D h1 h2
  rw [Oper.semAt_eq _ _ _ hd, hr]
  exact h3 (.tup []) undef h' F' w' k o' (VR.tup [] #[] rfl (fun i v h => by simp at h)) tr
theorem OpS.of_evP {P : Program} {ρ : Option Nat} {n : Nat} {o : Oper} {t : Fr} {h : Hp} {K : V → Hp → Prop} {v : V} (hv : evP P t h o = some v) (hk : K v h) : OpS P ρ n o t h K := by
  intro F w tm D next Q' h1 h2 h3
  obtain ⟨hd, x, hr, r⟩ := evP_run (P := P) (ds := D) h1 h2 hv
  rw [Oper.semAt_eq _ _ _ hd, hr]
  exact h3 v x h F w hk h1 r (Trans.refl _ _ _)
end Go.Fw
