/- A part of the proof: FwM -/
import Derived.Test.YtmohgegpcfkooaaGreatDoorFwL
set_option linter.all false
set_option linter.unusedSectionVars false
set_option linter.unusedVariables false
set_option linter.unusedSimpArgs false
namespace Go.Fw
variable [Gl]
def Tri (P : Program) (f : FuncId) (as : List V) (h : Hp) (Φ : V → Hp → Prop) : Prop :=
  ∀ F w av, Own F h w → VRs F as av → CallsIn (FW none) 0 P f av w fun e w' => ∃ v x h' F', e = .returned x ∧ Φ v h' ∧ Own F' h' w' ∧ VR F' v x ∧ Trans F h w F' h' w'
theorem Tri.mono {P : Program} {f : FuncId} {as : List V} {h : Hp} {Φ Ψ : V → Hp → Prop} (ht : Tri P f as h Φ) (hq : ∀ v h, Φ v h → Ψ v h) : Tri P f as h Ψ := fun F w av ho ha =>
  (ht F w av ho ha).mono fun e w' ⟨v, x, h', F', he, hp, r⟩ => ⟨v, x, h', F', he, hq _ _ hp, r⟩
theorem own_frame {F F1 : Froz} {hc hf h1 : Hp} {w w1 : World} (ho : Own F (hc ++ hf) w) (ho1 : Own F1 h1 w1) (tr : Trans F hc w F1 h1 w1) : Own F1 (h1 ++ hf) w1 ∧ Trans F (hc ++ hf) w F1 (h1 ++ hf) w1 ∧ ∀ b, b ∈ h1.ns → b ∉ hf.ns := by
  have hnd := ho.nodup
  rw [Hp.ns_append, List.nodup_append] at hnd
  have hlt : ∀ b, b ∈ hf.ns → b < w.heap.size := fun b hb => ho.lt (by rw [Hp.ns_append]; exact List.mem_append_right _ hb)
  have hnc : ∀ b, b ∈ hf.ns → b ∉ hc.ns := fun b hb hb' => hnd.2.2 b hb' b hb rfl
  have hdis : ∀ b, b ∈ h1.ns → b ∉ hf.ns := fun b hb hb' => by
    rcases tr.names b hb with h | h
    · exact hnc b hb' h
    · have := hlt b hb'; omega
  refine ⟨⟨?_, ?_, ?_, ho1.frz, ho1.gl⟩, ⟨tr.mono, tr.size, ?_, ?_, ?_, tr.os, tr.tape, tr.output, tr.drn⟩, hdis⟩
  · rw [Hp.ns_append, List.nodup_append]
    exact ⟨ho1.nodup, hnd.2.1, fun b hb b' hb' e => hdis b hb (e ▸ hb')⟩
  · intro b o hm
    rcases List.mem_append.1 hm with hm | hm
    · exact ho1.own b o hm
    · obtain ⟨x, hx, r⟩ := ho.own b o (List.mem_append_right _ hm)
      have hb := mem_ns hm
      exact ⟨x, by rw [tr.keep b (hlt b hb) (hnc b hb)]; exact hx, r.mono tr.mono⟩
  · intro b hb
    rw [Hp.ns_append] at hb
    rcases List.mem_append.1 hb with hb | hb
    · exact ho1.off b hb
    · have h0 := ho.off b (by rw [Hp.ns_append]; exact List.mem_append_right _ hb)
      by_cases e : F1 b = F b
      · rw [e]; exact h0
      · rcases tr.fr b e with h | h
        · exact absurd h (hnc b hb)
        · have := hlt b hb; omega
  · intro b hb hn
    rw [Hp.ns_append] at hn
    exact tr.keep b hb fun h => hn (List.mem_append_left _ h)
  · intro b hb
    rw [Hp.ns_append] at hb ⊢
    rcases List.mem_append.1 hb with hb | hb
    · rcases tr.names b hb with h | h
      · exact .inl (List.mem_append_left _ h)
      · exact .inr h
    · exact .inl (List.mem_append_right _ hb)
  · intro b hb
    rw [Hp.ns_append]
    rcases tr.fr b hb with h | h
    · exact .inl (List.mem_append_left _ h)
    · exact .inr h
theorem Tri.frame {P : Program} {f : FuncId} {as : List V} {hc : Hp} {Φ : V → Hp → Prop} (ht : Tri P f as hc Φ) (hf : Hp) : Tri P f as (hc ++ hf) fun v h' => ∃ h1, h' = h1 ++ hf ∧ Φ v h1 ∧ ∀ b, b ∈ h1.ns → b ∉ hf.ns := by
  intro F w av ho ha
  refine (ht F w av (ho.sub (List.sublist_append_left _ _)) ha).mono ?_
  rintro e w' ⟨v, x, h', F', he, hp, ho', r, tr⟩
  obtain ⟨h1, h2, h3⟩ := own_frame ho ho' tr
  exact ⟨v, x, _, F', he, ⟨h', rfl, hp, h3⟩, h1, r, h2⟩
theorem Tri.perm {P : Program} {f : FuncId} {as : List V} {h h2 : Hp} {Φ : V → Hp → Prop} (ht : Tri P f as h2 Φ) (hp : h2.Perm h) : Tri P f as h Φ := by
  intro F w av ho ha
  refine (ht F w av (ho.perm hp) ha).mono ?_
  rintro e w' ⟨v, x, h', F', he, hph, ho', r, tr⟩
  exact ⟨v, x, h', F', he, hph, ho', r, (Trans.perm hp).trans tr⟩
def PTri (P : Program) (f : FuncId) (as : List V) (r : V) : Prop := Tri P f as [] fun v h' => v = r ∧ h' = []
theorem PTri.tri {P : Program} {f : FuncId} {as : List V} {r : V} (hp : PTri P f as r) (h : Hp) : Tri P f as h fun v h' => v = r ∧ h' = h := by
  have := hp.frame h
  simp only [List.nil_append] at this
  exact this.mono fun v h' ⟨h1, e, ⟨e1, e2⟩, _⟩ => ⟨e1, by rw [e, e2]; rfl⟩
def isGo (P : Program) (f : FuncId) : Bool := match P.funcs[f]? with
  | some fn => fn.body.isSome && !(fn.name == "runtime.NumGoroutine")
  | none => false
theorem callFunc_go {P : Program} {f : FuncId} {av : Array Value} {w : World} (hg : isGo P f = true) : (callFunc f av).run P w = .ok (.enter f av) w := by
  unfold isGo at hg
  split at hg
  · rename_i fn hfn
    simp only [Bool.and_eq_true, Bool.not_eq_true'] at hg
    obtain ⟨h1, h2⟩ := hg
    have h3 : fn.body.isNone = false := by cases hb : fn.body <;> simp_all
    simp only [callFunc, Sem.run_bind, run_program, Result.andThen_ok, hfn, h2, h3, Bool.false_eq_true, if_false, Sem.run_pure]
  · simp at hg
def CallS (P : Program) (f : FuncId) (as : List V) (h : Hp) (K : V → Hp → Prop) : Prop :=
  ∀ F w av (ρ : Option Nat) (o : Oper) (a : Act) (next : Act → World → Prop) (Q' : Exit → Act → World → Prop), Own F h w → VRs F as av →
    (∀ v x h' F' w', K v h' → Own F' h' w' → VR F' v x → Trans F h w F' h' w' → next (a.put o.dst x) w') →
    o.uponIn (FW ρ) 0 P a next Q' ((callFunc f av).run P w)
theorem CallS.mono {P : Program} {f : FuncId} {as : List V} {h : Hp} {K K' : V → Hp → Prop} (hc : CallS P f as h K) (hk : ∀ v h, K v h → K' v h) : CallS P f as h K' :=
  fun F w av ρ o a next Q' h1 h2 h3 => hc F w av ρ o a next Q' h1 h2 fun v x h' F' w' k => h3 v x h' F' w' (hk v h' k)
theorem CallS.of_tri {P : Program} {f : FuncId} {as : List V} {h : Hp} {K : V → Hp → Prop} (hg : isGo P f = true) (ht : Tri P f as h K) : CallS P f as h K := by
  intro F w av ρ o a next Q' ho ha hk
  rw [callFunc_go hg, Oper.uponIn_enter]
  refine ⟨FW_depth ρ 0, callsIn_FW ((ht F w av ho ha).mono ?_)⟩
  rintro e w' ⟨v, x, h', F', rfl, hp, ho', r, tr⟩
  exact hk v x h' F' w' hp ho' r tr
theorem CallS.pure {P : Program} {f : FuncId} {as : List V} {h : Hp} {K : V → Hp → Prop} {r : V} (hg : isGo P f = true) (ht : PTri P f as r) (hk : K r h) : CallS P f as h K :=
  CallS.of_tri hg ((ht.tri h).mono fun v h' ⟨e1, e2⟩ => by rw [e1, e2]; exact hk)
def YieldS (P : Program) (l : Nat) (as : List V) (h : Hp) (K : V → Hp → Prop) : Prop :=
  ∀ F w av (ρ : Option Nat) (o : Oper) (a : Act) (next : Act → World → Prop) (Q' : Exit → Act → World → Prop), Own F h w → VRs F as av →
    (∀ v x h' F' w', K v h' → Own F' h' w' → VR F' v x → Trans F h w F' h' w' → next (a.put o.dst x) w') →
    o.uponIn (FW ρ) 0 P a next Q' ((Instr.yield l av).run P w)
theorem YieldS.mono {P : Program} {l : Nat} {as : List V} {h : Hp} {K K' : V → Hp → Prop} (hc : YieldS P l as h K) (hk : ∀ v h, K v h → K' v h) : YieldS P l as h K' :=
  fun F w av ρ o a next Q' h1 h2 h3 => hc F w av ρ o a next Q' h1 h2 fun v x h' F' w' k => h3 v x h' F' w' (hk v h' k)
variable {P : Program} {ρ : Option Nat} {n : Nat} {o : Oper} {t : Fr} {h : Hp} {K : V → Hp → Prop}
theorem vrs_append {F : Froz} {a b : List V} {av bv : Array Value} (ha : VRs F a av) (hb : VRs F b bv) : VRs F (a ++ b) (av ++ bv) := by
  refine ⟨by simp [ha.1, hb.1], fun i v hv => ?_⟩
  rw [Array.getD_eq_getD_getElem?]
  by_cases hi : i < a.length
  · rw [List.getElem?_append_left hi] at hv
    rw [Array.getElem?_append_left (by rw [ha.1]; exact hi)]
    have := ha.2 i v hv
    rwa [Array.getD_eq_getD_getElem?] at this
  · rw [List.getElem?_append_right (by omega)] at hv
    rw [Array.getElem?_append_right (by rw [ha.1]; omega), ha.1]
    have := hb.2 _ v hv
    rwa [Array.getD_eq_getD_getElem?] at this
theorem OpS.call {c : Call} {fo : Operand} {g : FuncId} {caps as : List V} (hop : o.op = .call c) (hcal : c.callee = .value fo) (hf : evO t fo = some (.clo g caps)) (ha : evOs t c.args.toList = some as) (hk : CallS P g (as ++ caps) h K) : OpS P ρ n o t h K := by
  intro F w tm D next Q' ho hfr hn
  rw [Oper.semAt_eq _ _ _ (by simp [hop])]
  obtain ⟨cv, ef, hcv⟩ := (evO_r (ds := D) hfr hf).clo_inv
  have hav := evOs_r (ds := D) hfr ha
  have e1 : (c.args.toList.map (Act.eval ⟨tm, D⟩)).toArray = c.args.map (Act.eval ⟨tm, D⟩) := by rw [← Array.toList_inj, Array.toList_map]
  rw [e1] at hav
  have := hk F w (c.args.map (Act.eval ⟨tm, D⟩) ++ cv) ρ o ⟨tm, D⟩ next Q' ho (vrs_append hav hcv) hn
  simpa [execOp, hop, resolve, hcal, ef, Deferred.ofValue, invoke, Sem.run_bind] using this
theorem OpS.yield {c : Call} {fo : Operand} {l : Nat} {as : List V} (hop : o.op = .call c) (hcal : c.callee = .value fo) (hf : evO t fo = some (.yield l)) (ha : evOs t c.args.toList = some as) (hk : YieldS P l as h K) : OpS P ρ n o t h K := by
  intro F w tm D next Q' ho hfr hn
  rw [Oper.semAt_eq _ _ _ (by simp [hop])]
  have ef := (evO_r (ds := D) hfr hf).yield_inv
  have hav := evOs_r (ds := D) hfr ha
  have e1 : (c.args.toList.map (Act.eval ⟨tm, D⟩)).toArray = c.args.map (Act.eval ⟨tm, D⟩) := by rw [← Array.toList_inj, Array.toList_map]
  rw [e1] at hav
  have := hk F w (c.args.map (Act.eval ⟨tm, D⟩)) ρ o ⟨tm, D⟩ next Q' ho hav hn
  simpa [execOp, hop, resolve, hcal, ef, Deferred.ofValue, invoke, Sem.run_bind] using this
def WOp (P : Program) (ρ : Option Nat) (n : Nat) (o : Oper) (t : Fr) (h : Hp) (K : V → Hp → Prop) : Prop :=
  match o.op with
  | .alloc T => match tzero P T with
    | some z => WNew h T z z.length (.ptr · 0) K
    | none => False
  | .box T x => match evO t x with
    | some v => WNew h T (vcells v) (vcells v).length (.ptr · 0) K
    | none => False
  | .buildSlice T len parts => match tslice P T with
    | some e => match tsz P e, tzero P e, evParts t parts.toList with
      | some k, some z, some ps => match evFill (fun i => some (i * k, k)) (zcells z (len * k)) ps with
        | some cs => len * k ≤ 16777216 ∧ 0 < z.length ∧ WNew h e cs cs.length (.slice · 0 len len) K
        | none => False
      | _, _, _ => False
    | none => False
  | .store T a x => match evO t a, evO t x with
    | some p, some v => WStore P h T p v K
    | _, _ => False
  | .makeSlice _ _ _ => OpS P ρ n o t h K
  | .convert s d x => match evO t x with
    | some (.str bs) => if tisstr P d = true then (if tisstr P s = true then K (.str bs) h else False) else OpS P ρ n o t h K
    | some v => match evConv P h s d v with
      | some u => K u h
      | none => False
    | none => False
  | .call c => match c.callee with
    | .value fo => match evO t fo, evOs t c.args.toList with
      | some (.clo g caps), some as => CallS P g (as ++ caps) h K
      | some (.yield l), some as => YieldS P l as h K
      | _, _ => False
    | .builtin .len | .builtin .min | .builtin .max => match evP P t h o with
      | some v => K v h
      | none => False
    | _ => OpS P ρ n o t h K
  | .binOp .eql T x y U => match evP P t h o with
    | some v => K v h
    | none => OpS P ρ n o t h K
  | .binOp .neq T x y U => match evP P t h o with
    | some v => K v h
    | none => OpS P ρ n o t h K
  | .makeMap _ _ | .mapUpdate _ _ _ _ | .insert _ _ _ _ | .lookup _ _ _ _ | .mapEntry _ _ _ | .entryStore _ _ _ _ | .range _ _ | .next _ _ | .makeInterface _ _ | .typeAssert _ _ _ _ => OpS P ρ n o t h K
  | _ => match evP P t h o with
    | some v => K v h
    | none => False
theorem WOp.sound (hw : WOp P ρ n o t h K) : OpS P ρ n o t h K := by
  have hev : (match evP P t h o with | some v => K v h | none => False) → OpS P ρ n o t h K := fun hh => by
    split at hh
    · rename_i v hv; exact OpS.of_evP hv hh
    · exact hh.elim
  unfold WOp at hw
  split at hw
  · rename_i T hop
    split at hw
    · rename_i z hz; exact OpS.alloc hop hz hw
    · exact hw.elim
  · rename_i T x hop
    split at hw
    · rename_i v hv; exact OpS.box hop hv hw
    · exact hw.elim
  · rename_i T len parts hop
    split at hw
    · rename_i e he
      split at hw
      · rename_i k z ps hk hz hp
        split at hw
        · rename_i cs hcs
          exact OpS.buildSlice hop he hk hz hw.1 hw.2.1 hp hcs hw.2.2
        · exact hw.elim
      · exact hw.elim
    · exact hw.elim
  · rename_i T a x hop
    split at hw
    · rename_i p v hp hv; exact OpS.store hop hp hv hw
    · exact hw.elim
  · exact hw
  · rename_i s d x hop
    split at hw
    · rename_i bs hx
      split at hw
      · rename_i hd
        split at hw
        · rename_i hs
          refine OpS.of_evP (v := .str bs) ?_ hw
          simp [evP, hop, hx, evConv, hs, hd]
        · exact hw.elim
      · exact hw
    · rename_i v hv hx
      split at hw
      · rename_i u hu
        refine OpS.of_evP (v := u) ?_ hw
        simp [evP, hop, hx, hu]
      · exact hw.elim
    · exact hw.elim
  · rename_i c hop
    split at hw
    · rename_i fo hcal
      split at hw
      · rename_i g caps as hf ha; exact OpS.call hop hcal hf ha hw
      · rename_i l as hf ha; exact OpS.yield hop hcal hf ha hw
      · exact hw.elim
    · exact hev hw
    · exact hev hw
    · exact hev hw
    · exact hw
  · split at hw
    · rename_i v hv; exact OpS.of_evP hv hw
    · exact hw
  · split at hw
    · rename_i v hv; exact OpS.of_evP hv hw
    · exact hw
  all_goals first
    | exact hw
    | exact hev hw
def dstOk (n : Nat) (o : Oper) : Prop := match o.dst with
  | some d => d < n
  | none => True
def wOps (P : Program) (ρ : Option Nat) (n : Nat) (ops : Array Oper) : List Oper → Fr → Hp → (Fr → Hp → Prop) → Prop
  | [], t, h, K => K t h
  | o :: os, t, h, K => dstOk n o ∧ match o.guard with
    | none => WOp P ρ n o t h fun v h' => wOps P ρ n ops os (updO t o.dst v) h' K
    | some (j, want) => match (ops[j]?).bind (·.dst) with
      | some d => match t d with
        | some (.bool b) => (b = want → WOp P ρ n o (upd t d (.bool want)) h fun v h' => wOps P ρ n ops os (updO (upd t d (.bool want)) o.dst v) h' K) ∧
            (b = !want → wOps P ρ n ops os (updO (upd t d (.bool !want)) o.dst (.tup [])) h K)
        | some (.tup _) => wOps P ρ n ops os (updO t o.dst (.tup [])) h K
        | _ => False
      | none => False
theorem upd_same_fr {t : Fr} {d : Nat} {v : V} (h : t d = some v) : upd t d v = t := by
  funext i
  unfold upd
  split
  · rename_i e; rw [e, h]
  · rfl
theorem frR_put {F : Froz} {tm : Array Value} (hf : FrR F n t tm) (hd : dstOk n o) {v : V} {x : Value} (hv : VR F v x) {D : List Deferred} :
    ∃ tm', Act.put ⟨tm, D⟩ o.dst x = ⟨tm', D⟩ ∧ FrR F n (updO t o.dst v) tm' := by
  unfold dstOk at hd
  cases ho : o.dst with
  | none => exact ⟨tm, rfl, hf⟩
  | some d => rw [ho] at hd; exact ⟨tm.setIfInBounds d x, rfl, hf.upd hd hv⟩
theorem wOps_sound {ops : Array Oper} {Q : Exit → Act → World → Prop} {D : List Deferred} : ∀ (is : List Nat) (t : Fr) (h : Hp) (K : Fr → Hp → Prop) (F : Froz) (w : World) (tm : Array Value), wOps P ρ n ops (is.filterMap (ops[·]?)) t h K →
    Own F h w → FrR F n t tm → (∀ t' h' F' w' tm', K t' h' → Own F' h' w' → FrR F' n t' tm' → Trans F h w F' h' w' → Q .normal ⟨tm', D⟩ w') → wpOpsIn (FW ρ) 0 P ops Q is ⟨tm, D⟩ w
  | [], t, h, K, F, w, tm, hw, ho, hf, hk => hk t h F w tm hw ho hf (Trans.refl _ _ _)
  | i :: is, t, h, K, F, w, tm, hw, ho, hf, hk => by
    simp only [wpOpsIn]
    cases hi : ops[i]? with
    | none =>
      simp only [List.filterMap_cons, hi] at hw
      exact wOps_sound is t h K F w tm hw ho hf hk
    | some o =>
      simp only [List.filterMap_cons, hi] at hw
      obtain ⟨hd, hw⟩ := hw
      simp only
      have main : ∀ (t : Fr), FrR F n t tm → WOp P ρ n o t h (fun v h' => wOps P ρ n ops (is.filterMap (ops[·]?)) (updO t o.dst v) h' K) → Oper.wpIn (FW ρ) 0 P o ⟨tm, D⟩ w (wpOpsIn (FW ρ) 0 P ops Q is) Q := by
        intro t hf hw
        refine ⟨fun f _ => FW_fn ρ f, hw.sound F w tm D _ Q ho hf ?_⟩
        intro v x h' F' w' hk' ho' hr tr
        obtain ⟨tm', e, hf'⟩ := frR_put (o := o) (hf.mono tr.mono) hd hr (D := D)
        rw [e]
        exact wOps_sound is _ h' K F' w' tm' hk' ho' hf' fun t2 h2 F2 w2 tm2 k2 o2 f2 tr2 => hk t2 h2 F2 w2 tm2 k2 o2 f2 (tr.trans tr2)
      split at hw
      · rename_i hg
        rw [if_pos (by simp [Region.wanted, hg])]
        exact main t hf hw
      · rename_i j want hg
        split at hw
        · rename_i d hjd
          split at hw
          · rename_i b hb
            obtain ⟨x, hx, r⟩ := hf.at_ d _ hb
            obtain rfl := r.bool_inv
            have hy : yielded ops tm j = some b := by simp [yielded, hjd, hx]
            have hwant : Region.wanted o (yielded ops tm) = (b == want) := by
              simp only [Region.wanted, hg, hy]
              cases b <;> cases want <;> rfl
            rw [hwant]
            by_cases hbw : b = want
            · subst hbw
              rw [if_pos (by simp)]
              have := hw.1 rfl
              rw [upd_same_fr hb] at this
              exact main t hf this
            · have hbn : b = !want := by cases b <;> cases want <;> simp_all
              rw [if_neg (by simpa using hbw)]
              refine ⟨fun f _ => FW_fn ρ f, ?_⟩
              have := hw.2 hbn
              rw [← hbn, upd_same_fr hb] at this
              obtain ⟨tm', e, hf'⟩ := frR_put (o := o) hf hd (VR.tup [] #[] rfl (fun i v h => by simp at h)) (D := D)
              have e' : Act.put ⟨tm, D⟩ o.dst undef = ⟨tm', D⟩ := e
              rw [e']
              exact wOps_sound is _ h K F w tm' this ho hf' hk
          · rename_i cs hb
            obtain ⟨x, hx, r⟩ := hf.at_ d _ hb
            obtain ⟨vs, rfl, _⟩ := r.tup_inv
            have hy : yielded ops tm j = none := by simp [yielded, hjd, hx]
            rw [if_neg (by simp [Region.wanted, hg, hy])]
            refine ⟨fun f _ => FW_fn ρ f, ?_⟩
            obtain ⟨tm', e, hf'⟩ := frR_put (o := o) hf hd (VR.tup [] #[] rfl (fun i v h => by simp at h)) (D := D)
            have e' : Act.put ⟨tm, D⟩ o.dst undef = ⟨tm', D⟩ := e
            rw [e']
            exact wOps_sound is _ h K F w tm' hw ho hf' hk
          · exact hw.elim
        · exact hw.elim
theorem range_ops (ops : Array Oper) : (List.range ops.size).filterMap (ops[·]?) = ops.toList := by
  have key : ∀ (k : Nat), k ≤ ops.size → (List.range k).filterMap (ops[·]?) = ops.toList.take k := by
    intro k
    induction k with
    | zero => simp
    | succ k ih =>
      intro hk
      rw [List.range_succ, List.filterMap_append, ih (by omega)]
      have : ops[k]? = some (ops[k]'(by omega)) := by simp
      simp only [List.filterMap_cons, this, List.filterMap_nil]
      rw [List.take_succ_eq_append_getElem (by simp; omega)]
      simp
  rw [key ops.size (Nat.le_refl _), List.take_of_length_le (by simp)]
theorem WC.region {dl : List Nat} {Q : Po} {id : Nat} {ops : Array Oper} (hw : wOps P ρ n ops ops.toList t h fun t' h' => Q .normal t' h' dl) : WC P ρ n (.region id ops false) t h dl Q := by
  intro F w tm ho hf
  refine wpIn_region (wOps_sound _ t h _ F w tm (by rw [range_ops]; exact hw) ho hf ?_)
  intro t' h' F' w' tm' k o' f' tr
  exact ⟨t', h', dl, F', k, o', f', rfl, tr⟩
end Go.Fw
