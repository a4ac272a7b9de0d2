/- A part of the proof: LwI -/
import Derived.Test.YtmohgegpcfkooaaGreatDoorLwD
import Derived.KernelRfl
set_option linter.all false
set_option linter.unusedSectionVars false
set_option linter.unusedVariables false
set_option linter.unusedSimpArgs false
namespace Go.Fw
variable [Gl]
variable {P : Program} {ρr : Option Nat} {n nb : Nat} {t : Fr} {h : Hp} {ops : Array Oper} {o : Oper}
theorem WOp_of_evP {K : V → Hp → Prop} {v : V} (hv : evP P t h o = some v) (hk : K v h) : WOp P ρr n o t h K := by
  have hv2 := hv
  unfold WOp
  split <;> rename_i hop <;> try (unfold evP at hv2; simp only [hop] at hv2; simp at hv2; done)
  · unfold evP at hv2
    simp only [hop] at hv2
    obtain ⟨a, ha, hc⟩ := Option.bind_eq_some_iff.1 hv2
    rw [ha]
    split
    · rename_i bs hbs
      simp only [Option.some.injEq] at hbs
      subst hbs
      unfold evConv at hc
      simp only at hc
      split at hc
      · rename_i hcc
        simp only [Option.some.injEq] at hc; subst hc
        rw [if_pos hcc.2, if_pos hcc.1]; exact hk
      · simp at hc
    · rename_i u hu hne
      simp only [Option.some.injEq] at hne
      subst hne
      rw [hc]; exact hk
    · rename_i h0; simp at h0
  · split
    · rename_i hcal
      unfold evP at hv2; simp only [hop, hcal] at hv2; simp at hv2
    · rw [hv]; exact hk
    · rw [hv]; exact hk
    · rw [hv]; exact hk
    · rename_i h1 h2 h3 h4
      unfold evP at hv2
      simp only [hop] at hv2
      first
        | (simp at hv2; done)
        | (split at hv2 <;> first | (simp at hv2; done) | simp_all)
  · rw [hv]; exact hk
  · rw [hv]; exact hk
  · rw [hv]; exact hk
theorem evO_rs {x : Operand} (hx : x ∈ o.op.operands.toList) : evO (rs ops t o) x = evO t x := by
  cases x with
  | tmp i =>
    simp only [evO, rs]
    rw [if_pos]
    simp only [Oper.looksAt, List.contains_eq_mem, decide_eq_true_eq]
    exact List.mem_append_left _ (List.mem_filterMap.2 ⟨.tmp i, hx, rfl⟩)
  | _ => rfl
theorem evOs_rs : ∀ {xs : List Operand}, (∀ x ∈ xs, x ∈ o.op.operands.toList) → evOs (rs ops t o) xs = evOs t xs
  | [], _ => rfl
  | x :: r, h => by simp only [evOs, evO_rs (h x (by simp)), evOs_rs fun y hy => h y (List.mem_cons_of_mem _ hy)]
theorem evParts_rs : ∀ {xs : List (Nat × Operand)}, (∀ x ∈ xs, x.2 ∈ o.op.operands.toList) → evParts (rs ops t o) xs = evParts t xs
  | [], _ => rfl
  | (i, x) :: r, h => by simp only [evParts, evO_rs (h (i, x) (by simp)), evParts_rs fun y hy => h y (List.mem_cons_of_mem _ hy)]
theorem evB_rs {x : Option Operand} (hx : ∀ y, x = some y → y ∈ o.op.operands.toList) : evB (rs ops t o) x = evB t x := by
  cases x with
  | none => rfl
  | some y => simp only [evB, evO_rs (hx y rfl)]
theorem evP_rs : evP P (rs ops t o) h o = evP P t h o := by
  have A : ∀ x, x ∈ o.op.operands.toList → evO (rs ops t o) x = evO t x := fun x hx => evO_rs hx
  have B : ∀ xs : List Operand, (∀ x ∈ xs, x ∈ o.op.operands.toList) → evOs (rs ops t o) xs = evOs t xs := fun xs h => evOs_rs h
  have C : ∀ xs : List (Nat × Operand), (∀ x ∈ xs, x.2 ∈ o.op.operands.toList) → evParts (rs ops t o) xs = evParts t xs := fun xs h => evParts_rs h
  have D : ∀ x : Option Operand, (∀ y, x = some y → y ∈ o.op.operands.toList) → evB (rs ops t o) x = evB t x := fun x h => evB_rs h
  unfold evP
  generalize rs ops t o = t' at *
  cases hop : o.op <;> rw [hop] at A B C D <;> try simp only [Op.operands] at A B C D
  all_goals try rfl
  all_goals try dsimp only
  case move x => exact A x (by simp)
  case assign x => exact A x (by simp)
  case pick c a b => rw [A c (by simp), A a (by simp), A b (by simp)]
  case load T a => rw [A a (by simp)]
  case nilCheck x => rw [A x (by simp)]
  case binOp op T x y U => rw [A x (by simp), A y (by simp)]
  case unOp op T x => rw [A x (by simp)]
  case convert s d x => rw [A x (by simp)]
  case makeFunc f first caps =>
    cases f <;> try rfl
    simp only
    rw [B caps.toList (fun x hx => by simp; right; simpa using hx)]
  case slice T x lo hi mx => rw [A x (by simp), D lo (fun y e => by simp [e]), D hi (fun y e => by simp [e]), D mx (fun y e => by simp [e])]
  case fieldAddr s x i => rw [A x (by simp)]
  case field T x i => rw [A x (by simp)]
  case indexAddr T x i => rw [A x (by simp), A i (by simp)]
  case index T x i => rw [A x (by simp), A i (by simp)]
  case extract x i => rw [A x (by simp)]
  case build T parts => rw [C parts.toList (fun x hx => by simp; exact ⟨x.1, by simpa using hx⟩)]
  case call c =>
    have B' : evOs t' c.args.toList = evOs t c.args.toList := B _ (fun x hx => by simp only [Call.operands, Array.toList_append, List.mem_append]; exact .inr hx)
    have A' : ∀ x ∈ c.args.toList, evO t' x = evO t x := fun x hx => A x (by simp only [Call.operands, Array.toList_append, List.mem_append]; exact .inr hx)
    simp only [B']
    split <;> try rfl
    split
    · rename_i x T e1 e2
      rw [A' x (by rw [e1]; simp)]
    · rfl
theorem evLoad_mono {h' : Hp} {T : TypeId} {p v : V} (hl : hle h h') (he : evLoad P h T p = some v) : evLoad P h' T p = some v := by
  unfold evLoad at he ⊢
  split at he
  · split at he
    · rename_i hg; simp only [hl _ _ hg]; exact he
    · simp at he
  · exact he
  · simp at he
theorem evLen_mono {h' : Hp} {a : V} {i : Int} (hl : hle h h') (he : evLen h a = some i) : evLen h' a = some i := by
  unfold evLen at he ⊢
  split at he <;> try exact he
  split at he
  · rename_i hg; simp only [hl _ _ hg]; exact he
  · simp at he
def isConv (o : Oper) : Bool := match o.op with
  | .convert _ _ _ => true
  | _ => false
theorem evP_mono {h' : Hp} {v : V} (hv : evP P t h o = some v) (hl : hle h h') (hc : isConv o = false) : evP P t h' o = some v := by
  unfold isConv at hc
  unfold evP at hv ⊢
  cases hop : o.op <;> rw [hop] at hv hc <;> try exact hv
  case load T a =>
    obtain ⟨p, hp, he⟩ := Option.bind_eq_some_iff.1 hv
    simp only [hp, Option.bind_some]
    exact evLoad_mono hl he
  case makeFunc f a b => cases f <;> exact hv
  case convert => simp at hc
  case call c =>
    cases hcal : c.callee with
    | builtin b =>
      simp only [hcal] at hv ⊢
      cases b <;> try exact hv
      simp only at hv ⊢
      split at hv
      · split at hv
        · split at hv
          · rename_i hf
            cases he : evLen h _ with
            | none => rw [he] at hv; simp at hv
            | some i => rw [he] at hv; rw [if_pos hf, evLen_mono hl he]; exact hv
          · simp at hv
        · simp at hv
      · simp at hv
    | _ => simp only [hcal] at hv; simp at hv
def isLd (o : Oper) : Bool := match o.op with
  | .load _ _ => true
  | .call c => true
  | _ => false
theorem evP_any {h' : Hp} {v : V} (hv : evP P t h o = some v) (hc : isConv o = false) (hl : isLd o = false) : evP P t h' o = some v := by
  unfold isConv at hc
  unfold isLd at hl
  unfold evP at hv ⊢
  cases hop : o.op <;> rw [hop] at hv hc hl <;> try exact hv
  case load T a => simp at hl
  case makeFunc f a b => cases f <;> exact hv
  case convert => simp at hc
  case call c => simp at hl
def chkO (ops : Array Oper) (L : List Nat) (i : Nat) : Bool := match ops[i]? with
  | some o => !isConv o && chk ops L i (descs ops i) (if isLd o then calm else anyO)
  | none => false
variable {K : Fr → Hp → Prop} {fuel : Nat} {L : List Nat}
theorem gd_yes {i : Nat} (hg : gdS ops t o true) : gdY ops t o = true := by
  unfold gdS at hg
  unfold gdY
  cases ho : o.guard with
  | none => rfl
  | some p =>
    obtain ⟨j, want⟩ := p
    simp only [ho] at hg ⊢
    cases ha : (ops[j]?).bind (·.dst) with
    | none => simp only [ha] at hg
    | some d =>
      simp only [ha] at hg ⊢
      rcases hg with hb | ⟨hy, _⟩
      · simp [hb]
      · cases hy
theorem gd_no {i : Nat} (hg : gdS ops t o false) : gdN ops t o = true := by
  unfold gdS at hg
  unfold gdN
  cases ho : o.guard with
  | none => simp [ho] at hg
  | some p =>
    obtain ⟨j, want⟩ := p
    simp only [ho] at hg ⊢
    cases ha : (ops[j]?).bind (·.dst) with
    | none => simp only [ha] at hg
    | some d =>
      simp only [ha] at hg ⊢
      rcases hg with hb | ⟨hy, cs, hb⟩
      · simp [hb]
      · simp [hb]
theorem SA.mono {K' : Fr → Hp → Prop} (hk : ∀ t h, K t h → K' t h) (hs : SA P ρr n ops fuel L t h K) : SA P ρr n ops fuel L t h K' := fun listed F w tm D Q hl ho hf hq =>
  hs listed F w tm D Q hl ho hf fun t' h' F' w' tm' k => hq t' h' F' w' tm' (hk _ _ k)
theorem wA_mono {K' : Fr → Hp → Prop} (hk : ∀ t h, K t h → K' t h) : ∀ (fuel : Nat) (L : List Nat) (t : Fr) (h : Hp), wA P ρr n ops fuel L t h K → wA P ρr n ops fuel L t h K'
  | 0, L, t, h, hw => ⟨hw.1, hk _ _ hw.2⟩
  | f + 1, L, t, h, hw => hw.elim (fun ⟨e, h1, h2, h3⟩ => .inl ⟨e, h1, h2, h3.mono hk⟩) fun hw => .inr ⟨fun e => hk _ _ (hw.1 e), fun i hi o ho => (hw.2 i hi o ho).mono fun t' h' hw' => wA_mono hk f _ _ _ hw'⟩
theorem wA.pureS {i d : Nat} {v : V} {S : Hp → Prop} {Sb : Oper → Bool} (hS : ∀ oj t h K, Sb oj = true → S h → wStep P ρr n ops oj t h K → wStep P ρr n ops oj t h fun t' h' => K t' h' ∧ S h') (ho : ops[i]? = some o) (hd : o.dst = some d) (hn : d < n) (hg : gdS ops t o true)
    (hv : ∀ h', S h' → evP P t h' o = some v) (hs : S h) (hc : chk ops L i (descs ops i) Sb = true) (hw : wA P ρr n ops fuel (i :: L) (upd t d v) h K) : wA P ρr n ops (fuel + 1) L t h K := by
  refine wA.first (S := S) ho hS fuel L t h hc hs (fun h' hs' K' hk => wStep.yes (dstOk_of hd hn) (gd_yes (i := i) hg) (WOp_of_evP (by rw [evP_rs]; exact hv h' hs') hk)) ?_
  rw [hd]; exact hw
theorem anyS (oj : Oper) (t : Fr) (h : Hp) (K : Fr → Hp → Prop) (hw : wStep P ρr n ops oj t h K) : wStep P ρr n ops oj t h fun t' h' => K t' h' ∧ True := hw.mono fun _ _ hk => ⟨hk, trivial⟩
theorem wA.pure {i d : Nat} {v : V} (ho : ops[i]? = some o) (hd : o.dst = some d) (hn : d < n) (hg : gdS ops t o true) (hv : evP P t h o = some v) (hc : chkO ops L i = true)
    (hw : wA P ρr n ops fuel (i :: L) (upd t d v) h K) : wA P ρr n ops (fuel + 1) L t h K := by
  simp only [chkO, ho, Bool.and_eq_true, Bool.not_eq_true'] at hc
  have hval : ∀ h', hle h h' → evP P (rs ops t o) h' o = some v := fun h' hl => by rw [evP_rs]; exact evP_mono hv hl hc.1
  have hS : ∀ (S : Hp → Prop), (∀ h', S h' → evP P (rs ops t o) h' o = some v) → ValS P ρr n ops o t S v := fun S hS h' hs K' hk =>
    wStep.yes (dstOk_of hd hn) (gd_yes (i := i) hg) (WOp_of_evP (hS h' hs) hk)
  cases hl : isLd o with
  | true =>
    rw [hl, if_pos rfl] at hc
    refine wA.first (S := fun h' => hle h h') ho (fun oj t h K hsb hs hw => wStep_calm hsb hs hw) fuel L t h hc.2 (hle.refl h) (hS _ hval) ?_
    rw [hd]; exact hw
  | false =>
    rw [hl, if_neg (by simp)] at hc
    refine wA.first (S := fun _ => True) ho (fun oj t h K _ _ hw => hw.mono fun _ _ hk => ⟨hk, trivial⟩) fuel L t h hc.2 trivial (hS _ fun h' _ => by rw [evP_rs]; exact evP_any hv hc.1 hl) ?_
    rw [hd]; exact hw
theorem wA.callP {i d : Nat} {f : FuncId} {r : V} {c : Call} {fo : Operand} {caps bs : List V} (ho : ops[i]? = some o) (hd : o.dst = some d) (hn : d < n) (hg : gdS ops t o true) (hop : o.op = .call c) (hcal : c.callee = .value fo) (hf : evO t fo = some (.clo f caps)) (ha : evOs t c.args.toList = some bs)
    (hgo : isGo P f = true) (hp : PTri P f (bs ++ caps) r) (hc : chk ops L i (descs ops i) anyO = true) (hw : wA P ρr n ops fuel (i :: L) (upd t d r) h K) : wA P ρr n ops (fuel + 1) L t h K := by
  have h1 : evO (rs ops t o) fo = some (.clo f caps) := by rw [evO_rs (by simp [hop, Op.operands, Call.operands, hcal])]; exact hf
  have h2 : evOs (rs ops t o) c.args.toList = some bs := by rw [evOs_rs (fun x hx => by simp only [hop, Op.operands, Call.operands, Array.toList_append, List.mem_append]; exact .inr hx)]; exact ha
  refine wA.first (S := fun _ => True) (v := r) ho (fun oj t h K _ _ hw => hw.mono fun _ _ hk => ⟨hk, trivial⟩) fuel L t h hc trivial (fun h' _ K' hk => wStep.yes (dstOk_of hd hn) (gd_yes (i := i) hg) ?_) ?_
  · simp only [WOp, hop, hcal, h1, h2]
    rw [hd] at hk ⊢
    exact CallS.pure hgo hp hk
  · rw [hd]; exact hw
theorem wA.no {i d : Nat} (ho : ops[i]? = some o) (hd : o.dst = some d) (hn : d < n) (hg : gdS ops t o false) (hc : chk ops L i (descs ops i) anyO = true) (hw : wA P ρr n ops fuel (i :: L) (upd t d (.tup [])) h K) : wA P ρr n ops (fuel + 1) L t h K :=
  wA.skip i (by rw [Array.getElem?_toList]; exact ho) hd (gd_no (i := i) hg) hc hw hn
end Go.Fw
