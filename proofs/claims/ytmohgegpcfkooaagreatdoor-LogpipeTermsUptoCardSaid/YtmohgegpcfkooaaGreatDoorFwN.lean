/- A part of the proof: FwN, FwO -/
import Derived.Test.YtmohgegpcfkooaaGreatDoorFwM
set_option linter.all false
set_option linter.unusedSectionVars false
set_option linter.unusedVariables false
set_option linter.unusedSimpArgs false
section
namespace Go.Fw
variable [Gl]
variable {P : Program} {ρ : Option Nat} {n : Nat}
def frA (as : List V) : Fr := fun i => as[i]?
theorem frA_r {F : Froz} {as : List V} {av : Array Value} (ha : VRs F as av) (hl : as.length ≤ n) : FrR F n (frA as) (av ++ Array.replicate (n - av.size) undef) where
  size := by simp [ha.1]; omega
  at_ := fun i v hv => by
    have hi : i < as.length := (List.getElem?_eq_some_iff.1 hv).1
    obtain ⟨x, hx, r⟩ := vrs_get ha hv
    exact ⟨x, by rw [Array.getElem?_append_left (by rw [ha.1]; exact hi)]; exact hx, r⟩
def resV (P : Program) (h : Hp) (t : Fr) : ResultVar → Option V
  | .tmp i => t i
  | .cell a T => (t a).bind (evLoad P h T)
def resVs (P : Program) (h : Hp) (t : Fr) : List ResultVar → Option (List V)
  | [] => some []
  | r :: rs => match resV P h t r, resVs P h t rs with
    | some v, some vs => some (v :: vs)
    | _, _ => none
def resAll (P : Program) (rs : List ResultVar) (t : Fr) (h : Hp) : Option V := match resVs P h t rs with
  | some [v] => some v
  | some vs => some (.tup vs)
  | none => none
theorem resV_run {F : Froz} {w : World} {t : Fr} {h : Hp} {tm : Array Value} (ho : Own F h w) (hf : FrR F n t tm) {r : ResultVar} {v : V} (hv : resV P h t r = some v) :
    ∃ x, (match r with
      | .tmp t => pure (tm.getD t undef)
      | .cell a t => do loadVar t (← asAddr (tm.getD a undef)) : Sem Value).run P w = .ok x w ∧ VR F v x := by
  cases r with
  | tmp i =>
    obtain ⟨x, hx, r⟩ := hf.at_ i v hv
    exact ⟨x, by simp [hx], r⟩
  | cell a T =>
    obtain ⟨p, hp, hl⟩ := Option.bind_eq_some_iff.1 hv
    obtain ⟨x, hx, r⟩ := hf.at_ a p hp
    obtain ⟨y, h1, h2⟩ := evLoad_run (P := P) ho r hl
    refine ⟨y, ?_, h2⟩
    have e : tm.getD a undef = x := by simp [hx]
    simp only [e, Sem.run_bind]
    cases p <;> simp only [evLoad] at hl <;> try (simp at hl; done)
    · obtain rfl := r.ptr_inv
      simpa [asAddr, Instr.loadAt, Instr.sureAddr, Sem.run_bind] using h1
    · obtain ⟨a, g, rfl, _⟩ := r.fptr_inv
      simpa [asAddr, Instr.loadAt, Instr.sureAddr, Sem.run_bind] using h1
theorem resVs_run {F : Froz} {w : World} {t : Fr} {h : Hp} {tm : Array Value} (ho : Own F h w) (hf : FrR F n t tm) : ∀ (rs : List ResultVar) (vs : List V), resVs P h t rs = some vs →
    ∃ xs : List Value, (rs.mapM fun
      | .tmp t => pure (tm.getD t undef)
      | .cell a t => do loadVar t (← asAddr (tm.getD a undef)) : Sem (List Value)).run P w = .ok xs w ∧ VRs F vs xs.toArray
  | [], vs, hv => by
    simp only [resVs, Option.some.injEq] at hv; subst hv
    exact ⟨[], by simp, VRs.nil F⟩
  | r :: rs, vs, hv => by
    simp only [resVs] at hv
    split at hv
    · rename_i v vs' e1 e2
      simp only [Option.some.injEq] at hv; subst hv
      obtain ⟨x, h1, r1⟩ := resV_run (P := P) ho hf e1
      obtain ⟨xs, h2, r2⟩ := resVs_run ho hf rs vs' e2
      refine ⟨x :: xs, ?_, ⟨by have := r2.1; simpa using this, fun i u hu => ?_⟩⟩
      · rw [List.mapM_cons, Sem.run_bind, h1, Result.andThen_ok, Sem.run_bind, h2]
        rfl
      · cases i with
        | zero => simp at hu; subst hu; simpa using r1
        | succ i => have := r2.2 i u (by simpa using hu); simpa using this
    · simp at hv
theorem results_run {F : Froz} {w : World} {t : Fr} {h : Hp} {tm : Array Value} (ho : Own F h w) (hf : FrR F n t tm) {fn : Func} {v : V} (hv : resAll P fn.results.toList t h = some v) :
    ∃ x, (results fn tm).run P w = .ok x w ∧ VR F v x := by
  unfold resAll at hv
  have main : ∀ vs, resVs P h t fn.results.toList = some vs → ∃ xs : List Value, (fn.results.mapM fun
      | .tmp t => pure (tm.getD t undef)
      | .cell a t => do loadVar t (← asAddr (tm.getD a undef)) : Sem (Array Value)).run P w = .ok xs.toArray w ∧ VRs F vs xs.toArray := by
    intro vs e
    obtain ⟨xs, h1, h2⟩ := resVs_run (P := P) ho hf fn.results.toList vs e
    refine ⟨xs, ?_, h2⟩
    rw [Array.mapM_eq_mapM_toList]
    simp only [map_eq_pure_bind, Sem.run_bind, h1, Result.andThen_ok, Sem.run_pure]
  split at hv
  · rename_i v' e
    simp only [Option.some.injEq] at hv; subst hv
    obtain ⟨xs, h1, h2⟩ := main _ e
    have hl : xs.length = 1 := by have := h2.1; simpa using this
    obtain ⟨x, rfl⟩ := List.length_eq_one_iff.1 hl
    refine ⟨x, ?_, by have := h2.2 0 _ rfl; simpa using this⟩
    unfold results
    rw [Sem.run_bind]
    exact congrArg (fun r : Result (Array Value) => r.andThen fun a w' => Sem.run P (pure (if h : a.size = 1 then a[0] else Value.tuple a)) w') h1
  · rename_i vs hne e
    simp only [Option.some.injEq] at hv; subst hv
    obtain ⟨xs, h1, h2⟩ := main _ e
    have hl : xs.toArray.size = vs.length := h2.1
    refine ⟨.tuple xs.toArray, ?_, VR.of_tup h2⟩
    unfold results
    rw [Sem.run_bind]
    refine (congrArg (fun r : Result (Array Value) => r.andThen fun a w' => Sem.run P (pure (if h : a.size = 1 then a[0] else Value.tuple a)) w') h1).trans ?_
    simp only [Result.andThen_ok]
    have : ¬ xs.toArray.size = 1 := fun h1 => by
      rw [hl] at h1
      obtain ⟨v, rfl⟩ := List.length_eq_one_iff.1 h1
      exact hne v rfl
    rw [dif_neg this]
    rfl
  · simp at hv
def RetOk (P : Program) (rs : List ResultVar) (Φ : V → Hp → Prop) (t : Fr) : List Nat → Hp → Prop
  | [], h => ∃ v, resAll P rs t h = some v ∧ Φ v h
  | r :: dl, h => hget h r = some .deferred ∧ RetOk P rs Φ t dl (hdel h r)
def RetQ (P : Program) (rs : List ResultVar) (Φ : V → Hp → Prop) : Po
  | .normal, t, h, dl => RetOk P rs Φ t dl h
  | .ret, t, h, dl => RetOk P rs Φ t dl h
  | _, _, _, _ => False
theorem Own.take {F : Froz} {h : Hp} {w : World} (ho : Own F h w) {r : Nat} {x : Obj} (hr : r ∈ h.ns) : Own F (hdel h r) (w.putObj r x) where
  nodup := hdel_nodup r ho.nodup
  own := fun b o hm => by
    obtain ⟨hne, hm⟩ := hdel_mem ho.nodup hm
    obtain ⟨y, hy, q⟩ := ho.own b o hm
    exact ⟨y, by rw [World.putObj_heap_other hne]; exact hy, q⟩
  off := fun b hm => ho.off b (hdel_ns_sub h r b hm)
  gl := ho.gl
  frz := fun b o hf => by
    have : b ≠ r := fun e => by have := ho.off r hr; rw [← e, hf] at this; cases this
    rw [World.putObj_heap_other this]; exact ho.frz b o hf
theorem Trans.take {F : Froz} {h : Hp} {w : World} {r : Nat} {x : Obj} (hr : r ∈ h.ns) : Trans F h w F (hdel h r) (w.putObj r x) where
  mono := FLe.refl F
  size := by simp
  keep := fun b _ hn => World.putObj_heap_other fun e => hn (e ▸ hr)
  names := fun b hm => .inl (hdel_ns_sub h r b hm)
  fr := fun _ hn => absurd rfl hn
  os := rfl
  tape := rfl
  drn := Nat.le_refl _
  output := rfl
theorem leaves_sound {fn : Func} {Φ : V → Hp → Prop} {R : Ending → World → Prop} {t : Fr} {tm : Array Value} {F : Froz} : ∀ (dl : List Nat) (h : Hp) (w : World), RetOk P fn.results.toList Φ t dl h → Own F h w → FrR F n t tm →
    (∀ v x h' w', Φ v h' → Own F h' w' → VR F v x → Trans F h w F h' w' → R (.returned x) w') → LeavesInM (FW none) 0 P fn tm R (mks dl) .returning w
  | [], h, w, hr, ho, hf, hk => by
    obtain ⟨v, h1, h2⟩ := hr
    obtain ⟨x, h3, h4⟩ := results_run (P := P) ho hf h1
    exact ⟨x, h3, hk v x h w h2 ho h4 (Trans.refl _ _ _)⟩
  | r :: dl, h, w, hr, ho, hf, hk => by
    obtain ⟨hg, hr⟩ := hr
    obtain ⟨x, hx, q⟩ := ho.get hg
    cases q
    have hm := hget_ns hg
    refine ⟨by simp, .inl ⟨r, w.putObj r (.deferred none), rfl, run_takeDeferred hx, ?_⟩⟩
    exact leaves_sound dl (hdel h r) _ hr (ho.take hm) hf fun v x h' w' p o' q' tr => hk v x h' w' p o' q' ((Trans.take hm).trans tr)
theorem Tri.of_wc {f : FuncId} {fn : Func} {c : Code} {as : List V} {h : Hp} {Φ : V → Hp → Prop} (hf : P.funcs[f]? = some fn) (hb : fn.body = some c) {rs : Array ResultVar} (hrs : fn.results = rs) (hn : fn.ntmps = n) (hl : as.length ≤ n)
    (hw : WC P none n c (frA as) h [] (RetQ P rs.toList Φ)) : Tri P f as h Φ := by
  intro F w av ho ha
  subst hrs
  refine callsIn_of_wp_marks hf hb (FW_fn none f) ?_ rfl
  subst hn
  refine wpIn_mono (hw F w _ ho (frA_r ha hl)) ?_
  rintro e ⟨tm, ds⟩ w' ⟨t', h', dl', F', hq, ho', hf', hd, tr⟩
  simp only at hd hf'
  subst hd
  cases e with
  | normal => exact leaves_sound dl' h' w' hq ho' hf' fun v x h2 w2 p o2 q2 tr2 => ⟨v, x, h2, F', rfl, p, o2, q2, tr.trans tr2⟩
  | ret => exact leaves_sound dl' h' w' hq ho' hf' fun v x h2 w2 p o2 q2 tr2 => ⟨v, x, h2, F', rfl, p, o2, q2, tr.trans tr2⟩
  | exit id => exact hq.elim
  | goto l => exact hq.elim
  | panic ch => exact hq.elim
  | outgrown => exact hq.elim
def Ent (t : Fr) (h : Hp) (t' : Fr) (h' : Hp) : Prop := ∀ F w n tm, Own F h w → FrR F n t tm → ∃ F', Own F' h' w ∧ FrR F' n t' tm ∧ Trans F h w F' h' w
theorem Ent.refl (t : Fr) (h : Hp) : Ent t h t h := fun F w n tm ho hf => ⟨F, ho, hf, Trans.refl _ _ _⟩
theorem Ent.trans {t t1 t2 : Fr} {h h1 h2 : Hp} (a : Ent t h t1 h1) (b : Ent t1 h1 t2 h2) : Ent t h t2 h2 := fun F w n tm ho hf => by
  obtain ⟨F1, o1, f1, tr1⟩ := a F w n tm ho hf
  obtain ⟨F2, o2, f2, tr2⟩ := b F1 w n tm o1 f1
  exact ⟨F2, o2, f2, tr1.trans tr2⟩
theorem Ent.sub {t t' : Fr} {h : Hp} (hs : Fr.sub t t') : Ent t h t' h := fun F w n tm ho hf => ⟨F, ho, hf.sub hs, Trans.refl _ _ _⟩
theorem Ent.drop {t : Fr} {h h' : Hp} (hs : h'.Sublist h) : Ent t h t h' := fun F w n tm ho hf => ⟨F, ho.sub hs, hf, Trans.sub hs⟩
theorem Ent.perm {t : Fr} {h h' : Hp} (hp : h'.Perm h) : Ent t h t h' := fun F w n tm ho hf => ⟨F, ho.perm hp, hf, Trans.perm hp⟩
theorem WC.ent {c : Code} {t t' : Fr} {h h' : Hp} {dl : List Nat} {Q : Po} (e : Ent t h t' h') (hw : WC P ρ n c t' h' dl Q) : WC P ρ n c t h dl Q := fun F w tm ho hf => by
  obtain ⟨F', o', f', tr⟩ := e F w n tm ho hf
  exact wpIn_mono (hw F' w tm o' f') fun _ _ _ => Post.from tr
def EQ (Q : Po) : Po := fun e t h dl => ∃ t' h', Ent t h t' h' ∧ Q e t' h' dl
theorem WC.post {c : Code} {t : Fr} {h : Hp} {dl : List Nat} {Q : Po} (hw : WC P ρ n c t h dl (EQ Q)) : WC P ρ n c t h dl Q := fun F w tm ho hf => by
  refine wpIn_mono (hw F w tm ho hf) ?_
  rintro e a w' ⟨t', h', dl', F', ⟨t2, h2, en, q⟩, o', f', d, tr⟩
  obtain ⟨F2, o2, f2, tr2⟩ := en F' w' n a.tmps o' f'
  exact ⟨t2, h2, dl', F2, q, o2, f2, d, tr.trans tr2⟩
theorem WC.loopE {c : Code} {t : Fr} {h : Hp} {dl : List Nat} {Q : Po} (I : Nat → Fr → Hp → List Nat → Prop)
    (round : ∀ j t h dl, I j t h dl → WC P ρ n c t h dl (thn (fun t' h' dl' => ∃ j' t2 h2, j' < j ∧ Ent t' h' t2 h2 ∧ I j' t2 h2 dl') Q)) {j : Nat} {t0 : Fr} {h0 : Hp} (he : Ent t h t0 h0) (hI : I j t0 h0 dl) : WC P ρ n (.loop c) t h dl Q := by
  refine WC.ent he (WC.loop I (fun j t h dl hI => ?_) hI)
  refine WC.post ((round j t h dl hI).mono fun e t h dl q => ?_)
  cases e with
  | normal => obtain ⟨j', t2, h2, hlt, en, hI'⟩ := q; exact ⟨t2, h2, en, j', hlt, hI'⟩
  | exit id => exact ⟨t, h, Ent.refl _ _, q⟩
  | goto l => exact ⟨t, h, Ent.refl _ _, q⟩
  | ret => exact ⟨t, h, Ent.refl _ _, q⟩
  | panic ch => exact ⟨t, h, Ent.refl _ _, q⟩
  | outgrown => exact ⟨t, h, Ent.refl _ _, q⟩
mutual
def frzV (b : Nat) (cs : List V) : V → V
  | .ptr p i => if p = b then .fptr cs i else .ptr p i
  | .slice p i len cap => if p = b then .fslice (cs.drop i) len else .slice p i len cap
  | .fptr l i => .fptr (frzL b cs l) i
  | .fslice l len => .fslice (frzL b cs l) len
  | .clo f l => .clo f (frzL b cs l)
  | .iface t v => .iface t (frzV b cs v)
  | .agg l => .agg (frzL b cs l)
  | .tup l => .tup (frzL b cs l)
  | v => v
def frzL (b : Nat) (cs : List V) : List V → List V
  | [] => []
  | v :: r => frzV b cs v :: frzL b cs r
end
theorem frzL_get (b : Nat) (cs : List V) : ∀ (l : List V) (i : Nat), (frzL b cs l)[i]? = (l[i]?).map (frzV b cs)
  | [], i => by simp [frzL]
  | v :: r, 0 => by simp [frzL]
  | v :: r, i + 1 => by simpa [frzL] using frzL_get b cs r i
theorem frzL_length (b : Nat) (cs : List V) : ∀ (l : List V), (frzL b cs l).length = l.length
  | [] => by simp [frzL]
  | v :: r => by simp [frzL, frzL_length b cs r]
def frzO (b : Nat) (cs : List V) : AObj → AObj
  | .cells T l n => .cells T (frzL b cs l) n
  | .map es => .map (es.map fun e => (frzV b cs e.1, frzV b cs e.2))
  | .loop st pend n t ps asg body db => .loop st pend n (fun i => (t i).map (frzV b cs)) ps asg body db
  | o => o
def frzH (b : Nat) (cs : List V) (h : Hp) : Hp := h.map fun p => (p.1, frzO b cs p.2)
theorem frzH_ns (b : Nat) (cs : List V) (h : Hp) : (frzH b cs h).ns = h.ns := by
  simp [frzH, Hp.ns, Function.comp_def]
theorem frzV_r {F : Froz} {b : Nat} {T : TypeId} {c : Array Value} {fz : Nat × Nat} {cs : List V} (hF : F b = none) (hl : cs.length ≤ c.size) (hr : ∀ i v, cs[i]? = some v → VR F v (c.getD i undef)) {v : V} {x : Value} (h : VR F v x) :
    VR (FAdd F b (.cells c T fz)) (frzV b cs v) x := by
  have hm := FAdd_le (x := .cells c T fz) hF
  have hcell : ∀ i, i < cs.length → fcell (FAdd F b (.cells c T fz)) ⟨b, i, none⟩ = some (c.getD i undef) := fun i hi => by
    have : i < c.size := by omega
    simp [fcell, FAdd, this]
  have hcs : ∀ i v, cs[i]? = some v → VR (FAdd F b (.cells c T fz)) v (c.getD i undef) := fun i v hv => (hr i v hv).mono hm
  induction h with
  | ptr p i =>
    simp only [frzV]
    split
    · rename_i e; subst e
      have := VR.fptr (F := FAdd F p (.cells c T fz)) cs i ⟨p, 0, none⟩ (fun i => c.getD i undef) (fun i hi => by rw [add_mk, Nat.zero_add]; exact hcell i hi) hcs
      rwa [add_mk, Nat.zero_add] at this
    · exact .ptr p i
  | slice p i len cap hlc =>
    simp only [frzV]
    split
    · rename_i e; subst e
      refine .fslice _ _ _ _ (fun j => c.getD (i + j) undef) hlc (fun j hj => ?_) (fun j v hv => ?_)
      · simp only [List.length_drop] at hj
        rw [add_mk]
        exact hcell _ (by omega)
      · rw [List.getElem?_drop] at hv
        exact hcs _ _ hv
    · exact .slice p i len cap hlc
  | fptr l o a g h1 h2 ih =>
    simp only [frzV]
    refine .fptr _ _ a g (fun i hi => fcell_mono hm (h1 i (by rwa [frzL_length] at hi))) (fun i v hv => ?_)
    rw [frzL_get] at hv
    obtain ⟨u, hu, rfl⟩ := Option.map_eq_some_iff.1 hv
    exact ih i u hu
  | fslice l len a cap g hlc h1 h2 ih =>
    simp only [frzV]
    refine .fslice _ _ a cap g hlc (fun i hi => fcell_mono hm (h1 i (by rwa [frzL_length] at hi))) (fun i v hv => ?_)
    rw [frzL_get] at hv
    obtain ⟨u, hu, rfl⟩ := Option.map_eq_some_iff.1 hv
    exact ih i u hu
  | clo f l vs hl' h2 ih =>
    simp only [frzV]
    refine .clo _ _ vs (by rw [frzL_length]; exact hl') (fun i v hv => ?_)
    rw [frzL_get] at hv
    obtain ⟨u, hu, rfl⟩ := Option.map_eq_some_iff.1 hv
    exact ih i u hu
  | agg l vs hl' h2 ih =>
    simp only [frzV]
    refine .agg _ vs (by rw [frzL_length]; exact hl') (fun i v hv => ?_)
    rw [frzL_get] at hv
    obtain ⟨u, hu, rfl⟩ := Option.map_eq_some_iff.1 hv
    exact ih i u hu
  | tup l vs hl' h2 ih =>
    simp only [frzV]
    refine .tup _ vs (by rw [frzL_length]; exact hl') (fun i v hv => ?_)
    rw [frzL_get] at hv
    obtain ⟨u, hu, rfl⟩ := Option.map_eq_some_iff.1 hv
    exact ih i u hu
  | iface t v x h ih => simp only [frzV]; exact .iface _ _ _ ih
  | int k n => exact .int k n
  | bool b => exact .bool b
  | str s => exact .str s
  | flt k b => exact .flt k b
  | nilptr => exact .nilptr
  | nilslice => exact .nilslice
  | fnil => exact .fnil
  | eslice a => exact .eslice a
  | nilmap => exact .nilmap
  | map b => exact .map b
  | nilfunc => exact .nilfunc
  | yield l => exact .yield l
  | niliface => exact .niliface
theorem frzO_r {F : Froz} {b : Nat} {T : TypeId} {c : Array Value} {fz : Nat × Nat} {cs : List V} (hF : F b = none) (hl : cs.length ≤ c.size) (hr : ∀ i v, cs[i]? = some v → VR F v (c.getD i undef)) {o : AObj} {x : Obj} (h : OR F o x) :
    OR (FAdd F b (.cells c T fz)) (frzO b cs o) x := by
  cases h with
  | cells T' l c' fz' hl' hz' hr' =>
    refine .cells T' _ c' fz' (by rw [frzL_length]; exact hl') hz' (fun i v hv => ?_)
    rw [frzL_get] at hv
    obtain ⟨u, hu, rfl⟩ := Option.map_eq_some_iff.1 hv
    exact frzV_r hF hl hr (hr' i u hu)
  | map es xs clock hl' h' hb hd =>
    refine .map _ xs clock (by simpa using hl') (fun i e x he hx => ?_) hb hd
    rw [List.getElem?_map] at he
    obtain ⟨u, hu, rfl⟩ := Option.map_eq_some_iff.1 he
    exact ⟨frzV_r hF hl hr (h' i u x hu hx).1, frzV_r hF hl hr (h' i u x hu hx).2⟩
  | striter s pos => exact .striter s pos
  | loop n t L h' =>
    refine .loop n _ L ⟨h'.size, fun i v hv => ?_⟩
    obtain ⟨u, hu, rfl⟩ := Option.map_eq_some_iff.1 hv
    obtain ⟨x, hx, q⟩ := h'.at_ i u hu
    exact ⟨x, hx, frzV_r hF hl hr q⟩
  | deferred => exact .deferred
theorem own_freeze {F : Froz} {h : Hp} {w : World} (ho : Own F h w) {b : Nat} {T : TypeId} {cs : List V} {nn : Nat} (hg : hget h b = some (.cells T cs nn)) :
    ∃ F', Own F' (frzH b cs (hdel h b)) w ∧ Trans F h w F' (frzH b cs (hdel h b)) w ∧ ∀ v x, VR F v x → VR F' (frzV b cs v) x := by
  obtain ⟨c, fz, hc, hl, rfl, hz, hr⟩ := own_cells ho hg
  have hF := ho.off b (hget_ns hg)
  have h1 := ho.freeze (hget_mem hg) hc
  have t1 := Trans.freeze (h := h) (w := w) (x := .cells c T fz) hF (hget_ns hg)
  refine ⟨FAdd F b (.cells c T fz), ⟨?_, ?_, ?_, h1.frz, h1.gl⟩, ⟨t1.mono, t1.size, t1.keep, ?_, t1.fr, t1.os, t1.tape, t1.output, t1.drn⟩, fun v x hv => frzV_r hF hl hr hv⟩
  · rw [frzH_ns]; exact h1.nodup
  · intro b' o' hm
    simp only [frzH, List.mem_map, Prod.mk.injEq, Prod.exists] at hm
    obtain ⟨b1, o1, hm, rfl, rfl⟩ := hm
    obtain ⟨y, hy, r⟩ := ho.own b1 o1 (hdel_mem ho.nodup hm).2
    exact ⟨y, hy, frzO_r hF hl hr r⟩
  · intro b' hm; rw [frzH_ns] at hm; exact h1.off b' hm
  · intro b' hm; rw [frzH_ns] at hm; exact t1.names b' hm
def frzF (b : Nat) (cs : List V) (t : Fr) : Fr := fun i => (t i).map (frzV b cs)
theorem Ent.freeze {t : Fr} {h : Hp} {b : Nat} {T : TypeId} {cs : List V} {nn : Nat} (hg : hget h b = some (.cells T cs nn)) : Ent t h (frzF b cs t) (frzH b cs (hdel h b)) := fun F w n tm ho hf => by
  obtain ⟨F', o', tr, hv⟩ := own_freeze ho hg
  refine ⟨F', o', ⟨hf.size, fun i v hi => ?_⟩, tr⟩
  obtain ⟨u, hu, rfl⟩ := Option.map_eq_some_iff.1 hi
  obtain ⟨x, hx, r⟩ := hf.at_ i u hu
  exact ⟨x, hx, hv u x r⟩
def VLe (v v' : V) : Prop := ∀ F x, VR F v x → VR F v' x
theorem VLe.refl (v : V) : VLe v v := fun _ _ h => h
theorem VLe.nils : VLe .nilslice (.fslice [] 0) := fun F x h => by rw [h.nilslice_inv]; exact .fnil
theorem VLe.cut {cs : List V} {len : Nat} (k : Nat) (hk : len = 0 → k = 0) : VLe (.fslice cs len) (.fslice (cs.take k) len) := fun F x h => by
  rcases h.fslice_inv with ⟨rfl, rfl, rfl⟩ | ⟨a, cap, g, rfl, hl, h1, h2⟩
  · simpa using VR.fnil
  · refine .fslice _ _ a cap g hl (fun i hi => h1 i (by simp at hi; omega)) (fun i v hv => ?_)
    have hi : i < k := by have := (List.getElem?_eq_some_iff.1 hv).1; simp at this; omega
    rw [List.getElem?_take_of_lt hi] at hv
    exact h2 i v hv
def Fr.le (t t' : Fr) : Prop := ∀ i v', t' i = some v' → ∃ v, t i = some v ∧ VLe v v'
theorem Ent.weak {t t' : Fr} {h : Hp} (hl : Fr.le t t') : Ent t h t' h := fun F w n tm ho hf => ⟨F, ho, ⟨hf.size, fun i v' hv' => by
  obtain ⟨v, hv, hle⟩ := hl i v' hv'
  obtain ⟨x, hx, r⟩ := hf.at_ i v hv
  exact ⟨x, hx, hle _ _ r⟩⟩, Trans.refl _ _ _⟩
theorem le_nil (t : Fr) : Fr.le t (frL []) := fun i v hv => by simp [frL, fr0] at hv
theorem le_cons {t : Fr} {i : Nat} {v u : V} {r : List (Nat × V)} (h1 : t i = some u) (h3 : VLe u v) (h2 : Fr.le t (frL r)) : Fr.le t (frL ((i, v) :: r)) := fun j w hu => by
  simp only [frL, upd] at hu
  split at hu
  · rename_i e
    simp only [Option.some.injEq] at hu
    subst hu; subst e
    exact ⟨u, h1, h3⟩
  · exact h2 j w hu
inductive VEnt : V → Hp → V → Hp → Prop where
  | refl (v : V) (h : Hp) : VEnt v h v h
  | freeze {v : V} {h : Hp} {v' : V} {h' : Hp} (b : Nat) {T : TypeId} {cs : List V} {nn : Nat} (hg : hget h b = some (.cells T cs nn)) (hr : VEnt (frzV b cs v) (frzH b cs (hdel h b)) v' h') : VEnt v h v' h'
  | drop {v : V} {h : Hp} {v' : V} {h' : Hp} {h2 : Hp} (hs : h2.Sublist h) (hr : VEnt v h2 v' h') : VEnt v h v' h'
  | weak {v : V} {h : Hp} {v' : V} {h' : Hp} {v2 : V} (hs : VLe v v2) (hr : VEnt v2 h v' h') : VEnt v h v' h'
  | perm {v : V} {h : Hp} {v' : V} {h' : Hp} {h2 : Hp} (hs : h2.Perm h) (hr : VEnt v h2 v' h') : VEnt v h v' h'
theorem VEnt.sound {v v' : V} {h h' : Hp} (e : VEnt v h v' h') : ∀ {F : Froz} {w : World} {x : Value}, Own F h w → VR F v x → ∃ F', Own F' h' w ∧ VR F' v' x ∧ Trans F h w F' h' w := by
  induction e with
  | refl v h => exact fun ho hv => ⟨_, ho, hv, Trans.refl _ _ _⟩
  | freeze b hg hr ih =>
    intro F w x ho hv
    obtain ⟨F1, o1, tr1, hv1⟩ := own_freeze ho hg
    obtain ⟨F2, o2, v2, tr2⟩ := ih o1 (hv1 _ _ hv)
    exact ⟨F2, o2, v2, tr1.trans tr2⟩
  | drop hs hr ih =>
    intro F w x ho hv
    obtain ⟨F2, o2, v2, tr2⟩ := ih (ho.sub hs) hv
    exact ⟨F2, o2, v2, (Trans.sub hs).trans tr2⟩
  | weak hs hr ih => exact fun ho hv => ih ho (hs _ _ hv)
  | perm hs hr ih =>
    intro F w x ho hv
    obtain ⟨F2, o2, v2, tr2⟩ := ih (ho.perm hs) hv
    exact ⟨F2, o2, v2, (Trans.perm hs).trans tr2⟩
theorem Tri.vent {f : FuncId} {as : List V} {h : Hp} {Φ Ψ : V → Hp → Prop} (ht : Tri P f as h Φ) (hq : ∀ v h', Φ v h' → ∃ v' h'', VEnt v h' v' h'' ∧ Ψ v' h'') : Tri P f as h Ψ := by
  intro F w av ho ha
  refine (ht F w av ho ha).mono ?_
  rintro e w' ⟨v, x, h', F', he, hp, ho', r, tr⟩
  obtain ⟨v', h'', en, q⟩ := hq v h' hp
  obtain ⟨F2, o2, v2, tr2⟩ := en.sound ho' r
  exact ⟨v', x, h'', F2, he, q, o2, v2, tr.trans tr2⟩
end Go.Fw
end

section
namespace Go.Fw
variable [Gl]
variable {P : Program} {ρ : Option Nat} {n : Nat} {ops : Array Oper} {o : Oper} {os : List Oper} {t : Fr} {h : Hp} {K : Fr → Hp → Prop}
def wGo (P : Program) (ρ : Option Nat) (n : Nat) (ops : Array Oper) (o : Oper) (os : List Oper) (t : Fr) (h : Hp) (K : Fr → Hp → Prop) : Prop :=
  dstOk n o ∧ WOp P ρ n o t h fun v h' => wOps P ρ n ops os (updO t o.dst v) h' K
theorem wU (hw : wGo P ρ n ops o os t h K) (hg : o.guard = none := by rfl) : wOps P ρ n ops (o :: os) t h K := by
  refine ⟨hw.1, ?_⟩
  rw [hg]
  exact hw.2
theorem wG {d j e : Nat} {want b : Bool} (hg : o.guard = some (j, want)) (hj : (ops[j]?).bind (·.dst) = some e) (hb : t e = some (.bool b)) (hd : o.dst = some d) (hn : d < n)
    (h1 : b = want → wGo P ρ n ops o os (upd t e (.bool want)) h K) (h2 : b = !want → wOps P ρ n ops os (upd (upd t e (.bool !want)) d (.tup [])) h K) : wOps P ρ n ops (o :: os) t h K := by
  refine ⟨by unfold dstOk; rw [hd]; exact hn, ?_⟩
  rw [hg]
  simp only [hj, hb]
  refine ⟨fun hbw => (h1 hbw).2, fun hbw => ?_⟩
  rw [hd]
  exact h2 hbw
theorem wY {j e : Nat} {want : Bool} (hb : t e = some (.bool want)) (hw : wGo P ρ n ops o os t h K) (hg : o.guard = some (j, want) := by rfl) (hj : (ops[j]?).bind (·.dst) = some e := by rfl) : wOps P ρ n ops (o :: os) t h K := by
  refine ⟨hw.1, ?_⟩
  rw [hg]
  simp only [hj, hb]
  refine ⟨fun _ => ?_, fun hbw => absurd hbw (by cases want <;> simp)⟩
  rw [upd_same_fr hb]
  exact hw.2
theorem wN {d j e : Nat} {want : Bool} (hb : t e = some (.bool !want)) (hw : wOps P ρ n ops os (upd t d (.tup [])) h K) (hg : o.guard = some (j, want) := by rfl) (hj : (ops[j]?).bind (·.dst) = some e := by rfl) (hd : o.dst = some d := by rfl) (hn : d < n := by decide) : wOps P ρ n ops (o :: os) t h K := by
  refine ⟨by unfold dstOk; rw [hd]; exact hn, ?_⟩
  rw [hg]
  simp only [hj, hb]
  refine ⟨fun hbw => absurd hbw (by cases want <;> simp), fun _ => ?_⟩
  rw [upd_same_fr hb, hd]
  exact hw
theorem wZ {d j e : Nat} {want : Bool} {cs : List V} (hb : t e = some (.tup cs)) (hw : wOps P ρ n ops os (upd t d (.tup [])) h K) (hg : o.guard = some (j, want) := by rfl) (hj : (ops[j]?).bind (·.dst) = some e := by rfl) (hd : o.dst = some d := by rfl) (hn : d < n := by decide) : wOps P ρ n ops (o :: os) t h K := by
  refine ⟨by unfold dstOk; rw [hd]; exact hn, ?_⟩
  rw [hg]
  simp only [hj, hb, hd]
  exact hw
theorem wOps.done (hk : K t h) : wOps P ρ n ops [] t h K := hk
theorem dstOk_of {d : Nat} (hd : o.dst = some d) (hn : d < n) : dstOk n o := by unfold dstOk; rw [hd]; exact hn
theorem dstOk_no (hd : o.dst = none) : dstOk n o := by unfold dstOk; rw [hd]; trivial
inductive NoFx : Op → Prop where
  | move (x : Operand) : NoFx (.move x)
  | assign (x : Operand) : NoFx (.assign x)
  | pick (c a b : Operand) : NoFx (.pick c a b)
  | load (T : TypeId) (a : Operand) : NoFx (.load T a)
  | nilCheck (x : Operand) : NoFx (.nilCheck x)
  | binOp (p : BinOp) (T : TypeId) (x y : Operand) (U : TypeId) : NoFx (.binOp p T x y U)
  | unOp (p : UnOp) (T : TypeId) (x : Operand) : NoFx (.unOp p T x)
  | makeFunc (f : Fn) (a b : Array Operand) : NoFx (.makeFunc f a b)
  | slice (T : TypeId) (x : Operand) (a b c : Option Operand) : NoFx (.slice T x a b c)
  | fieldAddr (T : TypeId) (x : Operand) (i : Nat) : NoFx (.fieldAddr T x i)
  | field (T : TypeId) (x : Operand) (i : Nat) : NoFx (.field T x i)
  | indexAddr (T : TypeId) (x i : Operand) : NoFx (.indexAddr T x i)
  | index (T : TypeId) (x i : Operand) : NoFx (.index T x i)
  | extract (x : Operand) (i : Nat) : NoFx (.extract x i)
  | build (T : TypeId) (p : Array (Nat × Operand)) : NoFx (.build T p)
theorem gE {d : Nat} {v : V} (hv : evP P t h o = some v) (hw : wOps P ρ n ops os (upd t d v) h K) (hx : NoFx o.op := by constructor) (hd : o.dst = some d := by rfl) (hn : d < n := by decide) : wGo P ρ n ops o os t h K := by
  refine ⟨dstOk_of hd hn, ?_⟩
  rw [hd]
  cases o with
  | mk dst op ty pos after guard =>
    simp only at hx
    cases hx <;> first
      | (simp only [WOp]; rw [hv]; exact hw)
      | (rename_i p _ _ _ _; cases p <;> (simp only [WOp]; rw [hv]; exact hw))
theorem gLen {d : Nat} {T ty : TypeId} {x : Operand} {a : V} {i : Int} {pos : String} {after : Array Edge} {gd : Option (Nat × Bool)} (hx : evO t x = some a) (hi : evLen h a = some i) (hf : lenFits P T a = true) (hw : wOps P ρ n ops os (upd t d (.int .i64 i)) h K) (hn : d < n := by decide) :
    wGo P ρ n ops ⟨some d, .call { callee := .builtin .len, args := #[x], argTypes := #[T] }, ty, pos, after, gd⟩ os t h K := by
  refine ⟨hn, ?_⟩
  simp only [WOp, evP, hx, hi, hf, Option.map_some, if_true]
  exact hw
theorem gCall {d : Nat} {ty : TypeId} {f : FuncId} {args : Array Operand} {ats : Array TypeId} {as : List V} {pos : String} {after : Array Edge} {gd : Option (Nat × Bool)} (ha : evOs t args.toList = some as)
    (hc : CallS P f as h fun v h' => wOps P ρ n ops os (upd t d v) h' K) (hn : d < n := by decide) :
    wGo P ρ n ops ⟨some d, .call { callee := .value (.func f), args := args, argTypes := ats }, ty, pos, after, gd⟩ os t h K := by
  refine ⟨hn, ?_⟩
  simp only [WOp, evO, ha, List.append_nil]
  exact hc
theorem gPure {d : Nat} {ty : TypeId} {f : FuncId} {args : Array Operand} {ats : Array TypeId} {as : List V} {r : V} {pos : String} {after : Array Edge} {gd : Option (Nat × Bool)} (ha : evOs t args.toList = some as) (hg : isGo P f = true) (hp : PTri P f as r)
    (hw : wOps P ρ n ops os (upd t d r) h K) (hn : d < n := by decide) :
    wGo P ρ n ops ⟨some d, .call { callee := .value (.func f), args := args, argTypes := ats }, ty, pos, after, gd⟩ os t h K :=
  gCall ha (CallS.pure hg hp hw) hn
theorem gCallV {d i : Nat} {ty : TypeId} {g : FuncId} {args : Array Operand} {ats : Array TypeId} {as caps : List V} {pos : String} {after : Array Edge} {gd : Option (Nat × Bool)} (hf : t i = some (.clo g caps)) (ha : evOs t args.toList = some as)
    (hc : CallS P g (as ++ caps) h fun v h' => wOps P ρ n ops os (upd t d v) h' K) (hn : d < n := by decide) :
    wGo P ρ n ops ⟨some d, .call { callee := .value (.tmp i), args := args, argTypes := ats }, ty, pos, after, gd⟩ os t h K := by
  refine ⟨hn, ?_⟩
  simp only [WOp, evO, hf, ha]
  exact hc
theorem gYield {d i l : Nat} {ty : TypeId} {args : Array Operand} {ats : Array TypeId} {as : List V} {pos : String} {after : Array Edge} {gd : Option (Nat × Bool)} (hf : t i = some (.yield l)) (ha : evOs t args.toList = some as)
    (hc : YieldS P l as h fun v h' => wOps P ρ n ops os (upd t d v) h' K) (hn : d < n := by decide) :
    wGo P ρ n ops ⟨some d, .call { callee := .value (.tmp i), args := args, argTypes := ats }, ty, pos, after, gd⟩ os t h K := by
  refine ⟨hn, ?_⟩
  simp only [WOp, evO, hf, ha]
  exact hc
theorem gAlloc {d : Nat} {T ty : TypeId} {z : List V} {pos : String} {after : Array Edge} {gd : Option (Nat × Bool)} (hz : tzero P T = some z) (hw : ∀ b, b ∉ h.ns → wOps P ρ n ops os (upd t d (.ptr b 0)) ((b, .cells T z z.length) :: h) K) (hn : d < n := by decide) :
    wGo P ρ n ops ⟨some d, .alloc T, ty, pos, after, gd⟩ os t h K := by
  refine ⟨hn, ?_⟩
  simp only [WOp, hz]
  exact hw
theorem gBox {d : Nat} {T ty : TypeId} {x : Operand} {v : V} {pos : String} {after : Array Edge} {gd : Option (Nat × Bool)} (hx : evO t x = some v) (hw : ∀ b, b ∉ h.ns → wOps P ρ n ops os (upd t d (.ptr b 0)) ((b, .cells T (vcells v) (vcells v).length) :: h) K) (hn : d < n := by decide) :
    wGo P ρ n ops ⟨some d, .box T x, ty, pos, after, gd⟩ os t h K := by
  refine ⟨hn, ?_⟩
  simp only [WOp, hx]
  exact hw
theorem gStore {T ty : TypeId} {a x : Operand} {b i nn : Nat} {T' : TypeId} {cs : List V} {v : V} {pos : String} {after : Array Edge} {gd : Option (Nat × Bool)} (ha : evO t a = some (.ptr b i)) (hx : evO t x = some v) (hg : hget h b = some (.cells T' cs nn))
    (hs : tsz P T = some (vcells v).length) (hl : i + (vcells v).length ≤ cs.length) (hlf : (vcells v).all leafV = true) (hw : wOps P ρ n ops os t (hset h b (.cells T' (stL cs i (vcells v)) nn)) K) :
    wGo P ρ n ops ⟨none, .store T a x, ty, pos, after, gd⟩ os t h K := by
  refine ⟨trivial, ?_⟩
  simp only [WOp, ha, hx, WStore, hg]
  exact ⟨hs, hl, hlf, hw⟩
theorem gBuildSlice {d : Nat} {T e ty : TypeId} {len k : Nat} {parts : Array (Nat × Operand)} {z : List V} {ps : List (Nat × V)} {cs : List V} {pos : String} {after : Array Edge} {gd : Option (Nat × Bool)} (hT : tslice P T = some e) (hs : tsz P e = some k) (hz : tzero P e = some z)
    (hp : evParts t parts.toList = some ps) (hf : evFill (fun i => some (i * k, k)) (zcells z (len * k)) ps = some cs) (hl : len * k ≤ 16777216) (hzl : 0 < z.length)
    (hw : ∀ b, b ∉ h.ns → wOps P ρ n ops os (upd t d (.slice b 0 len len)) ((b, .cells e cs cs.length) :: h) K) (hn : d < n := by decide) :
    wGo P ρ n ops ⟨some d, .buildSlice T len parts, ty, pos, after, gd⟩ os t h K := by
  refine ⟨hn, ?_⟩
  simp only [WOp, hT, hs, hz, hp, hf]
  exact ⟨hl, hzl, hw⟩
theorem gLoad {d : Nat} {T ty : TypeId} {a : Operand} {b i nn : Nat} {T' : TypeId} {cs : List V} {v : V} {pos : String} {after : Array Edge} {gd : Option (Nat × Bool)} (ht : tagg P T = some false) (ha : evO t a = some (.ptr b i)) (hg : hget h b = some (.cells T' cs nn))
    (hv : cs[i]? = some v) (hw : wOps P ρ n ops os (upd t d v) h K) (hn : d < n := by decide) : wGo P ρ n ops ⟨some d, .load T a, ty, pos, after, gd⟩ os t h K := by
  refine ⟨hn, ?_⟩
  simp only [WOp, evP, ha, Option.bind_some, evLoad, hg, ldAt, ht, hv]
  exact hw
theorem gLoadF {d : Nat} {T ty : TypeId} {a : Operand} {i : Nat} {cs : List V} {v : V} {pos : String} {after : Array Edge} {gd : Option (Nat × Bool)} (ht : tagg P T = some false) (ha : evO t a = some (.fptr cs i))
    (hv : cs[i]? = some v) (hw : wOps P ρ n ops os (upd t d v) h K) (hn : d < n := by decide) : wGo P ρ n ops ⟨some d, .load T a, ty, pos, after, gd⟩ os t h K := by
  refine ⟨hn, ?_⟩
  simp only [WOp, evP, ha, Option.bind_some, evLoad, ldAt, ht, hv]
  exact hw
theorem gIdxS {d : Nat} {T e ty : TypeId} {a x : Operand} {b o' len cap k : Nat} {q : IntKind} {i : Int} {pos : String} {after : Array Edge} {gd : Option (Nat × Bool)} (hT : tslice P T = some e) (hk : tsz P e = some k) (ha : evO t a = some (.slice b o' len cap)) (hx : evO t x = some (.int q i))
    (h0 : 0 ≤ i) (h1 : i < (len : Int)) (hw : wOps P ρ n ops os (upd t d (.ptr b (o' + i.toNat * k))) h K) (hn : d < n := by decide) : wGo P ρ n ops ⟨some d, .indexAddr T a x, ty, pos, after, gd⟩ os t h K := by
  refine ⟨hn, ?_⟩
  simp only [WOp, evP, ha, hx, evIndexAddr, hT, hk, if_pos (And.intro h0 h1)]
  exact hw
theorem gIdxF {d : Nat} {T e ty : TypeId} {a x : Operand} {cs : List V} {len k : Nat} {q : IntKind} {i : Int} {pos : String} {after : Array Edge} {gd : Option (Nat × Bool)} (hT : tslice P T = some e) (hk : tsz P e = some k) (ha : evO t a = some (.fslice cs len)) (hx : evO t x = some (.int q i))
    (h0 : 0 ≤ i) (h1 : i < (len : Int)) (hw : wOps P ρ n ops os (upd t d (.fptr cs (i.toNat * k))) h K) (hn : d < n := by decide) : wGo P ρ n ops ⟨some d, .indexAddr T a x, ty, pos, after, gd⟩ os t h K := by
  refine ⟨hn, ?_⟩
  simp only [WOp, evP, ha, hx, evIndexAddr, hT, hk, if_pos (And.intro h0 h1)]
  exact hw
theorem gIdxStr {d : Nat} {T ty : TypeId} {a x : Operand} {s : List UInt8} {q : IntKind} {i : Int} {c : UInt8} {pos : String} {after : Array Edge} {gd : Option (Nat × Bool)} (hT : tisstr P T = true) (ha : evO t a = some (.str s)) (hx : evO t x = some (.int q i))
    (h0 : 0 ≤ i) (hc : s[i.toNat]? = some c) (hw : wOps P ρ n ops os (upd t d (.int .u8 c.toNat)) h K) (hn : d < n := by decide) : wGo P ρ n ops ⟨some d, .index T a x, ty, pos, after, gd⟩ os t h K := by
  refine ⟨hn, ?_⟩
  simp only [WOp, evP, ha, hx, evIndexV, hT, h0, and_self, if_true, hc, Option.map_some]
  exact hw
theorem gSliceStr {d : Nat} {T ty : TypeId} {a : Operand} {lo hi : Option Operand} {s : List UInt8} {l r : Option Nat} {pos : String} {after : Array Edge} {gd : Option (Nat × Bool)} (hT : tisstr P T = true) (ha : evO t a = some (.str s)) (hl : evB t lo = some l) (hr : evB t hi = some r)
    (h1 : l.getD 0 ≤ r.getD s.length) (h2 : r.getD s.length ≤ s.length) (hw : wOps P ρ n ops os (upd t d (.str ((s.drop (l.getD 0)).take (r.getD s.length - l.getD 0)))) h K) (hn : d < n := by decide) : wGo P ρ n ops ⟨some d, .slice T a lo hi none, ty, pos, after, gd⟩ os t h K := by
  refine ⟨hn, ?_⟩
  have h3 : evB t none = some none := rfl
  simp only [WOp, evP, ha, hl, hr, h3, evSlice, hT, true_and, if_pos (And.intro h1 h2)]
  exact hw
theorem gMin {d : Nat} {ty : TypeId} {args : Array Operand} {ats : Array TypeId} {x v : V} {xs : List V} {pos : String} {after : Array Edge} {gd : Option (Nat × Bool)} (ha : evOs t args.toList = some (x :: xs)) (hm : evMin x xs = some v) (hw : wOps P ρ n ops os (upd t d v) h K) (hn : d < n := by decide) :
    wGo P ρ n ops ⟨some d, .call { callee := .builtin .min, args := args, argTypes := ats }, ty, pos, after, gd⟩ os t h K := by
  refine ⟨hn, ?_⟩
  simp only [WOp, evP, ha, hm]
  exact hw
theorem gConv {d : Nat} {s u ty : TypeId} {a : Operand} {x v : V} {pos : String} {after : Array Edge} {gd : Option (Nat × Bool)} (ha : evO t a = some x) (hx : ∀ l, x ≠ .str l) (hc : evConv P h s u x = some v) (hw : wOps P ρ n ops os (upd t d v) h K) (hn : d < n := by decide) :
    wGo P ρ n ops ⟨some d, .convert s u a, ty, pos, after, gd⟩ os t h K := by
  refine ⟨hn, ?_⟩
  cases x <;> first
    | (exact absurd rfl (hx _))
    | (simp only [WOp, ha, hc]; exact hw)
theorem gOp {d : Nat} (hs : OpS P ρ n o t h fun v h' => wOps P ρ n ops os (upd t d v) h' K) (hx : WOp P ρ n o t h = OpS P ρ n o t h) (hd : o.dst = some d := by rfl) (hn : d < n := by decide) : wGo P ρ n ops o os t h K := by
  refine ⟨dstOk_of hd hn, ?_⟩
  rw [hd, hx]
  exact hs
theorem sub_nil (t : Fr) : Fr.sub t (frL []) := fun i v hv => by simp [frL, fr0] at hv
theorem sub_cons {t : Fr} {i : Nat} {v : V} {r : List (Nat × V)} (h1 : t i = some v) (h2 : Fr.sub t (frL r)) : Fr.sub t (frL ((i, v) :: r)) := fun j u hu => by
  simp only [frL, upd] at hu
  split at hu
  · rename_i e
    simp only [Option.some.injEq] at hu
    subst hu; subst e
    exact h1
  · exact h2 j u hu
theorem WC.loopI {α : Type} {c : Code} {t : Fr} {h : Hp} {dl : List Nat} {Q : Po} (fr : α → List (Nat × V)) (hp : α → Hp) (m : α → Nat) (I : α → Prop) (a0 : α)
    (hs : Fr.sub t (frL (fr a0))) (hh : Ent (frL (fr a0)) h (frL (fr a0)) (hp a0)) (h0 : I a0)
    (round : ∀ a, I a → WC P ρ n c (frL (fr a)) (hp a) dl (thn (fun t' h' dl' => ∃ b, dl' = dl ∧ m b < m a ∧ I b ∧ Ent t' h' (frL (fr b)) (hp b)) Q)) : WC P ρ n (.loop c) t h dl Q := by
  refine WC.loopE (fun j t h dl' => ∃ a, dl' = dl ∧ m a = j ∧ I a ∧ t = frL (fr a) ∧ h = hp a) (fun j t h dl' hI => ?_) (j := m a0) ((Ent.sub hs).trans hh) ⟨a0, rfl, rfl, h0, rfl, rfl⟩
  obtain ⟨a, rfl, rfl, hIa, rfl, rfl⟩ := hI
  refine (round a hIa).mono fun e t h dl q => ?_
  cases e with
  | normal =>
    obtain ⟨b, e1, e2, e3, e4⟩ := q
    exact ⟨m b, _, _, e2, e4, b, e1, rfl, e3, rfl, rfl⟩
  | _ => exact q
theorem WC.seq_cut {α : Type} {x y : Code} {t : Fr} {h : Hp} {dl : List Nat} {Q : Po} (fr : α → List (Nat × V)) (hp : α → Hp) (I : α → Prop)
    (hw : WC P ρ n x t h dl (thn (fun t' h' dl' => ∃ a, dl' = dl ∧ I a ∧ Ent t' h' (frL (fr a)) (hp a)) Q)) (hy : ∀ a, I a → WC P ρ n y (frL (fr a)) (hp a) dl Q) : WC P ρ n (.seq x y) t h dl Q := by
  refine WC.seq (hw.mono fun e t h dl q => ?_)
  cases e with
  | normal => obtain ⟨a, rfl, hI, en⟩ := q; exact WC.ent en (hy a hI)
  | _ => exact q
theorem int_fit {a b : Int} (h : a = b) (h0 : 0 ≤ a) (h1 : a ≤ 9223372036854775807) : some (V.int .i64 (IntKind.i64.wrap a)) = some (V.int .i64 b) := by rw [wrap64_fit h0 h1, h]
theorem str_at {s : List UInt8} {k : Nat} (h : k < s.length) : s[((k : Nat) : Int).toNat]? = some s[k] := by simp [h]
end Go.Fw
end
