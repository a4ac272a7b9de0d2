/- A part of the proof: FwQ -/
import Derived.Test.YtmohgegpcfkooaaGreatDoorFwP
set_option linter.all false
set_option linter.unusedSectionVars false
set_option linter.unusedVariables false
set_option linter.unusedSimpArgs false
namespace Go.Fw
variable [Gl]
variable {P : Program} {ρ : Option Nat} {n : Nat} {ops : Array Oper} {t : Fr} {h : Hp} {K : Fr → Hp → Prop}
theorem rdy_mem {L : List Nat} {i : Nat} : i ∈ rdy ops L ↔ i < ops.size ∧ L.contains i = false ∧ ((ops[i]?).map (·.after.all fun e => !Region.binds .any e || L.contains e.on)).getD false = true := by
  unfold rdy
  rw [List.mem_filter]
  simp only [List.mem_range, Bool.and_eq_true, Bool.not_eq_true']
theorem rdy_cons {L : List Nat} {i j : Nat} (hj : j ∈ rdy ops L) (hij : j ≠ i) : j ∈ rdy ops (i :: L) := by
  rw [rdy_mem] at hj ⊢
  obtain ⟨h1, h2, h3⟩ := hj
  refine ⟨h1, by simp only [List.contains_cons, h2, Bool.or_false]; simpa using hij, ?_⟩
  cases ho : ops[j]? with
  | none => simp [ho] at h3
  | some o =>
    simp only [ho, Option.map_some, Option.getD_some, Array.all_eq_true] at h3 ⊢
    intro k hk
    have := h3 k hk
    simp only [Bool.or_eq_true, List.contains_cons] at this ⊢
    rcases this with h | h
    · exact .inl h
    · exact .inr (.inr h)
def chk (ops : Array Oper) (L : List Nat) (i : Nat) (D : List Nat) (S : Oper → Bool) : Bool :=
  (rdy ops L).contains i && (D.all fun j => !L.contains j && match ops[j]? with
    | some o => o.after.any fun e => Region.binds .any e && (e.on == i || D.contains e.on)
    | none => false) &&
  match ops[i]? with
  | some o => (List.range ops.size).all fun j => L.contains j || j == i || D.contains j || match ops[j]? with
    | some oj => o.apart ops oj && S oj
    | none => true
  | none => false
theorem updO_comm {d e : Option Nat} {v u : V} (hd : ∀ x, d = some x → e ≠ some x) : updO (updO t d v) e u = updO (updO t e u) d v := by
  cases d with
  | none => cases e <;> rfl
  | some x =>
    cases e with
    | none => rfl
    | some y =>
      have hxy : x ≠ y := fun h => hd x rfl (h ▸ rfl)
      funext i
      simp only [updO, upd]
      by_cases h1 : i = y
      · rw [if_pos h1]
        by_cases h2 : i = x
        · exact absurd (h2.symm.trans h1) hxy
        · rw [if_neg h2, if_pos h1]
      · rw [if_neg h1, if_neg h1]
theorem agree_updO {l : List Nat} {d : Option Nat} {v : V} (hd : ∀ x, d = some x → x ∉ l) : agree l (updO t d v) t := by
  intro i hi
  cases d with
  | none => rfl
  | some x =>
    simp only [updO, upd]
    rw [if_neg]
    intro e
    subst e
    exact hd _ rfl (by simpa using hi)
theorem agree.symm {l : List Nat} {t t' : Fr} (h : agree l t t') : agree l t' t := fun i hi => (h i hi).symm
theorem updO_inj {d : Option Nat} {v u : V} {t2 : Fr} (h : updO t d v = updO t d u) : updO t2 d v = updO t2 d u := by
  cases d with
  | none => rfl
  | some x =>
    have := congrFun h x
    simp only [updO, upd, if_true, Option.some.injEq] at this
    rw [this]
def ValS (P : Program) (ρ : Option Nat) (n : Nat) (ops : Array Oper) (o : Oper) (t : Fr) (S : Hp → Prop) (v : V) : Prop :=
  ∀ h', S h' → ∀ K' : Fr → Hp → Prop, K' (updO t o.dst v) h' → wStep P ρ n ops o t h' K'
theorem ValS.agree {o : Oper} {S : Hp → Prop} {v : V} {t2 : Fr} (hv : ValS P ρ n ops o t S v) (ha : agree (o.looksAt ops) t t2) : ValS P ρ n ops o t2 S v := by
  intro h' hs K' hk
  refine (hv h' hs (fun tt hh => tt = updO t o.dst v ∧ hh = h') ⟨rfl, rfl⟩).local ha fun u h2 ⟨e1, e2⟩ => ?_
  rw [e2, updO_inj e1]
  exact hk
theorem wA.first {i : Nat} {o : Oper} {v : V} {S : Hp → Prop} {Sb : Oper → Bool} (ho : ops[i]? = some o)
    (hS : ∀ oj t h K, Sb oj = true → S h → wStep P ρ n ops oj t h K → wStep P ρ n ops oj t h fun t' h' => K t' h' ∧ S h') :
    ∀ (fuel : Nat) (L : List Nat) (t : Fr) (h : Hp), chk ops L i (descs ops i) Sb = true → S h → ValS P ρ n ops o t S v → wA P ρ n ops fuel (i :: L) (updO t o.dst v) h K → wA P ρ n ops (fuel + 1) L t h K := by
  intro fuel
  generalize hD : descs ops i = D
  induction fuel with
  | zero =>
    intro L t h hc hs hv hw
    have hc' := hc
    unfold chk at hc
    simp only [Bool.and_eq_true] at hc
    obtain ⟨⟨c1, c2⟩, c3⟩ := hc
    have hi : i ∈ rdy ops L := by simpa using c1
    simp only [wA] at hw ⊢
    refine .inr ⟨fun e => by rw [e] at hi; simp at hi, fun j hj oj hoj => ?_⟩
    by_cases hij : j = i
    · subst hij
      obtain rfl : o = oj := by rw [ho] at hoj; exact Option.some.inj hoj
      exact hv h hs _ hw
    · have := rdy_cons hj hij
      rw [hw.1] at this
      simp at this
  | succ fuel ih =>
    intro L t h hc hs hv hw
    have hc' := hc
    unfold chk at hc
    simp only [Bool.and_eq_true] at hc
    obtain ⟨⟨c1, c2⟩, c3⟩ := hc
    have hi : i ∈ rdy ops L := by simpa using c1
    rw [wA]
    refine .inr ⟨fun e => by rw [e] at hi; simp at hi, fun j hj oj hoj => ?_⟩
    by_cases hij : j = i
    · subst hij
      obtain rfl : o = oj := by rw [ho] at hoj; exact Option.some.inj hoj
      exact hv h hs _ hw
    · have hj2 := rdy_cons hj hij
      obtain ⟨hjl, hjL, hja⟩ := rdy_mem.1 hj
      have hjD : D.contains j = false := by
        cases hd : D.contains j with
        | false => rfl
        | true =>
          exfalso
          have := List.all_eq_true.1 c2 j (by simpa using hd)
          simp only [hoj, Bool.and_eq_true] at this
          have h2 := this.2
          rw [Array.any_eq_true] at h2
          obtain ⟨k, hk, h2⟩ := h2
          simp only [hoj, Option.map_some, Option.getD_some, Array.all_eq_true] at hja
          have h3 := hja k hk
          simp only [Bool.and_eq_true, Bool.or_eq_true, beq_iff_eq, Bool.not_eq_true'] at h2 h3
          obtain ⟨h2a, h2b⟩ := h2
          rw [h2a] at h3
          have h3 : L.contains (oj.after[k]).on = true := by simpa using h3
          have hiL := (rdy_mem.1 hi).2.1
          rcases h2b with h2b | h2b
          · rw [h2b, hiL] at h3; simp at h3
          · have := List.all_eq_true.1 c2 _ (by simpa using h2b : (oj.after[k]).on ∈ D)
            simp only [Bool.and_eq_true, Bool.not_eq_true'] at this
            rw [this.1] at h3; simp at h3
      rw [ho] at c3
      have c4 := List.all_eq_true.1 c3 j (by simpa using hjl)
      simp only [hjL, hjD, hoj, Bool.false_or, Bool.or_eq_true, beq_iff_eq, hij, false_or, Bool.and_eq_true] at c4
      obtain ⟨ap, hsb⟩ := c4.resolve_left (by simp)
      obtain ⟨a1, a2, a3⟩ := Oper.apart_spec ap
      rw [wA] at hw
      have hw := hw.resolve_left (by
        rintro ⟨e, he1, he2, _⟩
        have hje : j = e := by rw [he1] at hj2; simpa using hj2
        have h3 := List.all_eq_true.1 he2 i (by simp)
        rw [hD, ← hje, hjD] at h3
        cases h3)
      have hstep := hw.2 j hj2 oj hoj
      have hag : agree (oj.looksAt ops) (updO t o.dst v) t := agree_updO a1
      refine (hS _ _ _ _ hsb hs hstep).local hag fun u h' hk => ?_
      obtain ⟨hk, hs'⟩ := hk
      have hag2 : agree (o.looksAt ops) t (updO t oj.dst u) := (agree_updO a3).symm
      refine ih (j :: L) (updO t oj.dst u) h' ?_ hs' (hv.agree hag2) ?_
      · unfold chk
        have hi2 : (rdy ops (j :: L)).contains i = true := by simpa using rdy_cons hi (Ne.symm hij)
        rw [hi2, ho]
        simp only [Bool.true_and, Bool.and_eq_true]
        refine ⟨?_, ?_⟩
        · rw [List.all_eq_true] at c2 ⊢
          intro x hx
          have h1 := c2 x hx
          simp only [Bool.and_eq_true, Bool.not_eq_true', List.contains_cons, Bool.or_eq_false_iff] at h1 ⊢
          refine ⟨⟨?_, h1.1⟩, h1.2⟩
          rw [beq_eq_false_iff_ne]
          rintro rfl
          rw [show D.contains x = true by simpa using hx] at hjD
          simp at hjD
        · rw [List.all_eq_true] at c3 ⊢
          intro x hx
          have h1 := c3 x hx
          simp only [Bool.or_eq_true, List.contains_cons] at h1 ⊢
          rcases h1 with ((h1 | h1) | h1) | h1
          · exact .inl (.inl (.inl (.inr h1)))
          · exact .inl (.inl (.inr h1))
          · exact .inl (.inr h1)
          · exact .inr h1
      · rw [updO_comm a2] at hk
        refine wA_congr fuel _ _ _ _ (fun x => ?_) hk
        simp only [List.contains_cons]
        cases (x == j) <;> cases (x == i) <;> rfl
theorem WOpQ_calm {o : Oper} {K : V → Hp → Prop} {h0 : Hp} (hc : calm o = true) (hs : hle h0 h) (hw : WOpQ P ρ n o t h K) : WOpQ P ρ n o t h fun v h' => K v h' ∧ hle h0 h' := OpS.mono hw fun v h' e => ⟨⟨e.1, hs.trans (e.2 hc)⟩, e.2⟩
theorem wStep_calm {o : Oper} {h0 : Hp} (hc : calm o = true) (hs : hle h0 h) (hw : wStep P ρ n ops o t h K) : wStep P ρ n ops o t h fun t' h' => K t' h' ∧ hle h0 h' := by
  refine ⟨hw.1, ?_⟩
  have hw := hw.2
  split at hw
  · exact WOpQ_calm hc hs hw
  · split at hw
    · split at hw
      · exact ⟨fun e => WOpQ_calm hc hs (hw.1 e), fun e => ⟨hw.2 e, hs⟩⟩
      · exact ⟨hw, hs⟩
      · exact hw.elim
    · exact hw.elim
end Go.Fw
