/- A part of the proof: FwS, FwT, FwU, FwZ, FwAB, FwAC, FwAD -/
import Derived.Test.YtonbppofjlpklaaGreatDoorFwR
import Derived.Scope
import Derived.Laws.RangeString
import Derived.Laws.Runes
import Derived.Lib.Overlaps
import Derived.Laws.Externs
set_option linter.all false
set_option linter.unusedSectionVars false
set_option linter.unusedVariables false
set_option linter.unusedSimpArgs false
section
namespace Go.Fw
variable [Gl]
variable {P : Program} {ρ : Option Nat} {n : Nat} {t : Fr} {h : Hp}
def RQ (I : Hp → Prop) (B : Code → Hp → Prop) : Po
  | .normal, _, h, _ => I h
  | .ret, _, h, _ => B .ret h
  | .exit id, _, h, _ => B (.exit id) h
  | .goto l, _, h, _ => B (.goto l) h
  | _, _, _, _ => False
def AbsF : Po := fun _ _ _ _ => False
def bindP : List Nat → List V → Fr → Fr
  | p :: ps, v :: vs, t => bindP ps vs (upd t p v)
  | _, _, t => t
theorem FrR.bindP {F : Froz} : ∀ (ps : List Nat) (vs : List V) (xs : List Value) (t : Fr) (tm : Array Value), FrR F n t tm → (∀ p, p ∈ ps → p < n) → vs.length = xs.length → (∀ i v, vs[i]? = some v → VR F v (xs.getD i undef)) →
    FrR F n (Fw.bindP ps vs t) ((ps.zip xs).foldl (fun tm (p, x) => tm.setIfInBounds p x) tm)
  | [], vs, xs, t, tm, hf, hp, hl, hv => by simpa [Fw.bindP] using hf
  | p :: ps, [], [], t, tm, hf, hp, hl, hv => by simpa [Fw.bindP] using hf
  | p :: ps, v :: vs, x :: xs, t, tm, hf, hp, hl, hv => by
    simp only [Fw.bindP, List.zip_cons_cons, List.foldl_cons]
    exact FrR.bindP ps vs xs _ _ (hf.upd (hp p (by simp)) (by simpa using hv 0 v rfl)) (fun q hq => hp q (by simp [hq])) (by simpa using hl) (fun i u hu => by simpa using hv (i + 1) u (by simpa using hu))
theorem zip_foldl {ps : Array Tmp} {av : Array Value} {tm : Array Value} : (ps.zip av).foldl (fun tm (p, x) => tm.setIfInBounds p x) tm = (ps.toList.zip av.toList).foldl (fun tm (p, x) => tm.setIfInBounds p x) tm := by
  rw [← Array.foldl_toList, Array.toList_zip]
theorem OR.loop_inv {F : Froz} {o : AObj} {x : Obj} {st : LoopState} {pend : Option Code} {ps : Array Tmp} {asg body : Code} {db : Nat} (h : OR F o x) (ho : o = .loop st pend n t ps asg body db) :
    ∃ L : Loop, x = .loop L ∧ L.state = st ∧ L.pending = pend ∧ L.params = ps ∧ L.assign = asg ∧ L.body = body ∧ L.defers = db ∧ FrR F n t L.tmps := by
  cases h with
  | loop n' t' L hf =>
    simp only [AObj.loop.injEq] at ho
    obtain ⟨h1, h2, rfl, rfl, h3, h4, h5, h6⟩ := ho
    exact ⟨L, rfl, h1, h2, h3, h4, h5, h6, hf⟩
  | _ => simp at ho
theorem hset_app {h hf : Hp} {l : Nat} {o o' : AObj} (hl : l ∉ h.ns) : hset (h ++ (l, o) :: hf) l o' = h ++ (l, o') :: hf := by
  induction h with
  | nil => simp [hset]
  | cons p r ih =>
    simp only [Hp.ns_cons, List.mem_cons, not_or] at hl
    simp only [List.cons_append, hset]
    rw [if_neg (fun e => hl.1 e.symm), ih hl.2]
theorem mem_mid {h hf : Hp} {l : Nat} {o : AObj} : (l, o) ∈ h ++ (l, o) :: hf := by simp
theorem ns_app_mem {h hf : Hp} {l : Nat} {o : AObj} : l ∈ (h ++ (l, o) :: hf).ns := by simp
theorem put_loop {F : Froz} {w : World} {h1 hf : Hp} {l r : Nat} {st st' : LoopState} {pend pend' : Option Code} {ps : Array Tmp} {asg body : Code}
    (ho : Own F (h1 ++ (l, .loop st pend n t ps asg body r) :: hf) w) (hl : l ∉ h1.ns) {L : Loop} (h3 : L.params = ps) (h4 : L.assign = asg) (h5 : L.body = body) (h6 : L.defers = r) (h7 : FrR F n t L.tmps) :
    Own F (h1 ++ (l, .loop st' pend' n t ps asg body r) :: hf) (w.putObj l (.loop { L with state := st', pending := pend' })) ∧
    Trans F (h1 ++ (l, .loop st pend n t ps asg body r) :: hf) w F (h1 ++ (l, .loop st' pend' n t ps asg body r) :: hf) (w.putObj l (.loop { L with state := st', pending := pend' })) := by
  subst h3 h4 h5 h6
  have hor : OR F (.loop st' pend' n t L.params L.assign L.body L.defers) (.loop { L with state := st', pending := pend' }) := .loop n t { L with state := st', pending := pend' } h7
  have a := ho.put (b := l) ns_app_mem hor
  have b := Trans.put (F := F) (w := w) (.loop st' pend' n t L.params L.assign L.body L.defers) (.loop { L with state := st', pending := pend' }) (ns_app_mem (h := h1) (hf := hf) (l := l) (o := .loop st pend n t L.params L.assign L.body L.defers))
  rw [hset_app hl] at a b
  exact ⟨a, b⟩
theorem YieldS.body {l r : Nat} {as : List V} {hb hf : Hp} {ps : Array Tmp} {asg body : Code} {I : Hp → Prop} {B : Code → Hp → Prop} (hp : ∀ p, p ∈ ps.toList → p < n) (hl : as.length = ps.size)
    (hw : WC P (some l) n asg (bindP ps.toList as t) hb [] (thn (fun t2 h2 dl2 => WC P (some l) n body t2 h2 dl2 (RQ I B)) AbsF)) :
    YieldS P l as (hb ++ (l, .loop .ready none n t ps asg body r) :: hf) fun v h' =>
      (v = .bool true ∧ ∃ h1, h' = h1 ++ (l, .loop .ready none n t ps asg body r) :: hf ∧ I h1 ∧ ∀ b, b ∈ h1.ns → b ∉ l :: hf.ns) ∨
      (v = .bool false ∧ ∃ h1 c, h' = h1 ++ (l, .loop .done (some c) n t ps asg body r) :: hf ∧ B c h1 ∧ ∀ b, b ∈ h1.ns → b ∉ l :: hf.ns) := by
  intro F w av ρ o a next Q' ho ha hn
  obtain ⟨x, hx, q⟩ := ho.own l _ mem_mid
  obtain ⟨L, rfl, e1, e2, e3, e4, e5, e6, hfr⟩ := q.loop_inv rfl
  rw [run_yield hx (by rw [ha.1, hl, e3]), Oper.uponIn_round]
  refine ⟨FW_depth ρ 0, roundIn_of_wpIn (F := FW ρ) trivial ?_⟩
  rw [zip_foldl, e3, e4, e5]
  have hfr1 := FrR.bindP ps.toList as av.toList t L.tmps hfr hp (by rw [← ha.1]; simp) (fun i v hv => by rw [getD_toList]; exact ha.2 i v hv)
  refine wpIn_mono (hw F w _ (ho.sub (List.sublist_append_left _ _)) hfr1) fun e a1 w1 hpost => ?_
  obtain ⟨t2, h2, dl2, F2, q2, o2, f2, d2, tr2⟩ := hpost
  cases e with
  | normal =>
    obtain ⟨g1, g2, g3⟩ := own_frame ho o2 tr2
    have hl2 : l ∉ h2.ns := fun hm => g3 l hm (by simp)
    obtain ⟨x, hx, q⟩ := g1.own l _ mem_mid
    obtain ⟨L1, rfl, k1, k2, k3, k4, k5, k6, hfr2⟩ := q.loop_inv rfl
    refine ⟨_, run_beginRound hx k1, ?_⟩
    have hputs := put_loop (st' := .busy) (pend' := none) g1 hl2 k3 k4 k5 k6 hfr2
    have eL : ({ L1 with state := .busy, pending := none } : Loop) = { L1 with state := .busy } := by rw [← k2]
    rw [eL] at hputs
    obtain ⟨p1, p2⟩ := hputs
    obtain ⟨tm1, ds1⟩ := a1
    simp only at d2 f2
    subst d2
    refine wpIn_mono (q2 F2 _ tm1 (p1.sub (List.sublist_append_left _ _)) f2) fun e a2 w3 hpost => ?_
    obtain ⟨t3, h3, dl3, F3, q3, o3, f3, d3, tr3⟩ := hpost
    obtain ⟨u1, u2, u3⟩ := own_frame p1 o3 tr3
    have hl3 : l ∉ h3.ns := fun hm => u3 l hm (by simp)
    obtain ⟨x, hx, q⟩ := u1.own l _ mem_mid
    obtain ⟨L3, rfl, m1, m2, m3, m4, m5, m6, hfr3⟩ := q.loop_inv rfl
    have fin : ∀ (jump : Option Code), (match jump with | none => I h3 | some c => B c h3) → ∃ v w', (Instr.endRound l jump).run P w3 = .ok v w' ∧ next (a.put o.dst v) w' := by
      intro jump hj
      refine ⟨_, _, run_endRound jump hx, ?_⟩
      obtain ⟨v1, v2⟩ := put_loop (st' := if jump.isNone then .ready else .done) (pend' := jump) u1 hl3 m3 m4 m5 m6 hfr3
      refine hn (.bool jump.isNone) _ _ F3 _ ?_ v1 (.bool _) (((g2.trans p2).trans u2).trans v2)
      cases jump with
      | none => exact .inl ⟨rfl, h3, rfl, hj, fun b hb hc => u3 b hb hc⟩
      | some c => exact .inr ⟨rfl, h3, c, rfl, hj, fun b hb hc => u3 b hb hc⟩
    cases e with
    | normal => exact fin none q3
    | ret => exact fin (some .ret) q3
    | exit id => exact fin (some (.exit id)) q3
    | goto g => exact fin (some (.goto g)) q3
    | panic ch => exact q3.elim
    | outgrown => exact q3.elim
  | exit id => exact q2.elim
  | goto g => exact q2.elim
  | ret => exact q2.elim
  | panic ch => exact q2.elim
  | outgrown => exact q2.elim
def IterC (P : Program) (f : FuncId) (caps : List V) (xs : List (List V)) : Prop := ∀ (l : Nat) (J : Nat → Hp → Prop) (S : Hp → Prop),
  (∀ k (hk : k < xs.length) h, J k h → YieldS P l xs[k] h fun v h' => (v = .bool true ∧ J (k + 1) h') ∨ (v = .bool false ∧ S h')) →
  ∀ h, J 0 h → Tri P f (.yield l :: caps) h fun _ h' => J xs.length h' ∨ S h'
theorem WC.range {g : Operand} {ps : Array Tmp} {asg body : Code} {f : FuncId} {caps : List V} {xs : List (List V)} {dl : List Nat} {Q : Po} (I : Nat → Hp → Prop) (B : Code → Hp → Prop)
    (hg : evO t g = some (.clo f caps)) (hgo : isGo P f = true) (hit : IterC P f caps xs) (hp : ∀ p, p ∈ ps.toList → p < n) (hl : ∀ a, a ∈ xs → a.length = ps.size) (h0 : I 0 h)
    (round : ∀ l k (hk : k < xs.length) h, I k h → WC P (some l) n asg (bindP ps.toList xs[k] t) h [] (thn (fun t2 h2 dl2 => WC P (some l) n body t2 h2 dl2 (RQ (I (k + 1)) B)) AbsF))
    (hend : ∀ r h, r ∉ h.ns → I xs.length h → Q .normal t ((r, .deferred) :: h) (r :: dl))
    (hjump : ∀ r h c, r ∉ h.ns → B c h → WC P none n c t ((r, .deferred) :: h) (r :: dl) Q) : WC P none n (.rangeFunc g ps asg body) t h dl Q := by
  intro F w tm ho hf
  refine wpIn_rangeFunc fun fn _ => ?_
  obtain ⟨cv, ef, hcv⟩ := (evO_r (ds := mks dl) hf hg).clo_inv
  let w0 := w.alloc (.deferred (some []))
  let L : Loop := { state := .ready, pending := none, fn := fn, tmps := tm, params := ps, assign := asg, body := body, defers := w.heap.size }
  let l := w.heap.size + 1
  let r := w.heap.size
  have hsz : w0.heap.size = l := World.size_alloc _ _
  have o0 : Own F ((r, .deferred) :: h) w0 := ho.push .deferred
  have tr0 : Trans F h w F ((r, .deferred) :: h) w0 := Trans.push F h w _ _
  have hor : OR F (.loop .ready none n t ps asg body r) (.loop L) := .loop n t L hf
  have o1 := o0.push hor
  have tr1 := Trans.push F ((r, .deferred) :: h) w0 (.loop .ready none n t ps asg body r) (.loop L)
  rw [hsz] at o1 tr1
  have hperm : (h ++ (l, AObj.loop .ready none n t ps asg body r) :: [(r, .deferred)]).Perm ((l, .loop .ready none n t ps asg body r) :: (r, .deferred) :: h) :=
    (List.perm_append_comm).trans (List.Perm.refl _)
  have o2 := o1.perm hperm
  have tr2 := (tr0.trans tr1).trans (Trans.perm hperm)
  have hargs : VRs F (.yield l :: caps) (#[Value.func (.yield l) #[] #[]] ++ cv) := by
    have := vrs_append (F := F) (a := [.yield l]) (b := caps) (av := #[Value.func (.yield l) #[] #[]]) (bv := cv) ⟨rfl, fun i v hv => by
      cases i with
      | zero => simp at hv; subst hv; simpa using VR.yield (F := F) l
      | succ i => simp at hv⟩ hcv
    simpa using this
  refine ⟨l, [{ target := .collected r, args := #[] }], w0.alloc (.loop L), { target := .fn (.func f) cv, args := #[Value.func (.yield l) #[] #[]] }, w0.alloc (.loop L), f, #[Value.func (.yield l) #[] #[]] ++ cv, w0.alloc (.loop L), run_enterLoop_outer fn tm ps asg body, ?_, fun _ _ => trivial, ?_, FW_depth none 0, ?_⟩
  · have e1 : ∀ x, Act.eval ⟨tm, mks dl⟩ (.const x) = x := fun _ => rfl
    simp [resolve, rangeCall, ef, e1, Deferred.ofValue]
  · simpa [invoke] using callFunc_go hgo
  · have hl0 : ∀ b, b ∈ h.ns → b ∉ [l, r] := fun b hb hc => by
      have := ho.lt hb
      simp only [List.mem_cons, List.not_mem_nil, or_false] at hc
      omega
    have hcall := hit l (fun k h' => ∃ h1, h' = h1 ++ (l, .loop .ready none n t ps asg body r) :: [(r, .deferred)] ∧ I k h1 ∧ ∀ b, b ∈ h1.ns → b ∉ [l, r])
      (fun h' => ∃ h1 c, h' = h1 ++ (l, .loop .done (some c) n t ps asg body r) :: [(r, .deferred)] ∧ B c h1 ∧ ∀ b, b ∈ h1.ns → b ∉ [l, r])
      (fun k hk h' ⟨h1, e, hI, hd⟩ => by
        subst e
        refine (YieldS.body (r := r) (I := I (k + 1)) (B := B) hp (hl _ (List.getElem_mem hk)) (round l k hk h1 hI)).mono ?_
        rintro v h' (⟨rfl, h2, rfl, hI2, hd2⟩ | ⟨rfl, h2, c, rfl, hB, hd2⟩)
        · exact .inl ⟨rfl, h2, rfl, hI2, hd2⟩
        · exact .inr ⟨rfl, h2, c, rfl, hB, hd2⟩)
      _ ⟨h, rfl, h0, hl0⟩ F (w0.alloc (.loop L)) _ o2 hargs
    refine hcall.mono ?_
    rintro e w3 ⟨v, x, h', F', rfl, hΦ, o3, hvr, tr3⟩
    have post : ∀ (h1 : Hp) (st : LoopState) (pend : Option Code), h' = h1 ++ (l, .loop st pend n t ps asg body r) :: [(r, .deferred)] → st ≠ .busy → (∀ b, b ∈ h1.ns → b ∉ [l, r]) →
        ∃ w4, (Instr.endLoop l).run P w3 = .ok pend w4 ∧ Own F' ((r, .deferred) :: h1) w4 ∧ Trans F h w F' ((r, .deferred) :: h1) w4 := by
      intro h1 st pend e hst hd
      subst e
      obtain ⟨y, hy, q⟩ := o3.own l _ mem_mid
      obtain ⟨L3, rfl, m1, m2, m3, m4, m5, m6, hfr3⟩ := q.loop_inv rfl
      have hl3 : l ∉ h1.ns := fun hm => hd l hm (by simp)
      subst m2
      obtain ⟨v1, v2⟩ := put_loop (st' := .exhausted) (pend' := L3.pending) o3 hl3 m3 m4 m5 m6 hfr3
      have hp2 : ((r, AObj.deferred) :: h1).Sublist ((l, .loop .exhausted L3.pending n t ps asg body r) :: (r, .deferred) :: h1) := List.sublist_cons_self _ _
      have hp3 : ((l, AObj.loop .exhausted L3.pending n t ps asg body r) :: (r, .deferred) :: h1).Perm (h1 ++ (l, .loop .exhausted L3.pending n t ps asg body r) :: [(r, .deferred)]) :=
        (List.perm_append_comm (l₁ := h1) (l₂ := (l, .loop .exhausted L3.pending n t ps asg body r) :: [(r, .deferred)])).symm
      refine ⟨_, run_endLoop hy (by rw [m1]; exact hst), ?_, ?_⟩
      · exact (v1.perm hp3).sub hp2
      · exact (((tr2.trans tr3).trans v2).trans (Trans.perm hp3)).trans (Trans.sub hp2)
    rcases hΦ with ⟨h1, e, hI, hd⟩ | ⟨h1, c, e, hB, hd⟩
    · obtain ⟨w4, he, o4, tr4⟩ := post h1 _ _ e (by simp) hd
      exact ⟨none, w4, he, t, _, r :: dl, F', hend r h1 (fun hm => hd r hm (by simp)) hI, o4, hf.mono tr4.mono, rfl, tr4⟩
    · obtain ⟨w4, he, o4, tr4⟩ := post h1 _ _ e (by simp) hd
      refine ⟨some c, w4, he, ?_⟩
      exact wpIn_mono (hjump r h1 c (fun hm => hd r hm (by simp)) hB F' w4 tm o4 (hf.mono tr4.mono)) fun _ _ _ => Post.from tr4
end Go.Fw
end

section
namespace Go.Fw
variable [Gl]
variable {P : Program} {n : Nat} {t : Fr} {h : Hp}
theorem PTri.any {f : FuncId} {us : List V} {r : V} (ht : Tri P f us [] fun v _ => v = r) : PTri P f us r :=
  Tri.vent ht fun v h' e => ⟨v, [], .drop (List.nil_sublist _) (.refl _ _), e, rfl⟩
end Go.Fw
end

section
namespace Go.Fw
variable [Gl]
variable {P : Program} {ρ : Option Nat} {n : Nat} {ops : Array Oper} {os : List Oper} {t : Fr} {h : Hp} {K : Fr → Hp → Prop}
theorem bytesOf_cells : ∀ l : List UInt8, bytesOf (byteCells l) = some l
  | [] => rfl
  | c :: l => by
    have := bytesOf_cells l
    simp only [byteCells] at this
    simp only [byteCells, List.map_cons, bytesOf, this, Option.map_some]
    simp
end Go.Fw
end

section
namespace Go.Fw
variable [Gl]
variable {P : Program} {ρ : Option Nat} {n : Nat} {ops : Array Oper} {os : List Oper} {t : Fr} {h : Hp} {K : Fr → Hp → Prop}
abbrev BS := Option (Nat × Nat)
end Go.Fw
end

section
namespace Go.Fw
variable [Gl]
variable {P : Program} {ρ : Option Nat} {n : Nat} {ops : Array Oper} {os : List Oper} {t : Fr} {h : Hp} {o : Oper}
def nogo (Q : Po) : Po
  | .goto _, _, _, _ => False
  | e, t, h, dl => Q e t h dl
theorem WC.scope {c : Code} {dl : List Nat} {Q : Po} (hw : WC P none n c t h dl (nogo Q)) : WC P none n (.scope c) t h dl Q := by
  intro F w tm ho hf
  refine wpIn_wide.2 (wp_scope_straight (wpIn_wide.1 (wpIn_mono (hw F w tm ho hf) fun e a w1 hp => ?_)))
  obtain ⟨t', h', dl', F', q, r⟩ := hp
  cases e with
  | goto l => exact q.elim
  | normal => exact ⟨t', h', dl', F', q, r⟩
  | exit id => exact ⟨t', h', dl', F', q, r⟩
  | ret => exact ⟨t', h', dl', F', q, r⟩
  | panic ch => exact ⟨t', h', dl', F', q, r⟩
  | outgrown => exact ⟨t', h', dl', F', q, r⟩
end Go.Fw
end

section
namespace Go.Fw
variable [Gl]
variable {P : Program} {ρ : Option Nat} {n : Nat} {ops : Array Oper} {os : List Oper} {t : Fr} {h : Hp} {K : Fr → Hp → Prop}
end Go.Fw
end

section
namespace Go.Fw
variable [Gl]
variable {P : Program} {ρ : Option Nat} {n : Nat} {o : Oper} {t : Fr} {h : Hp} {K : V → Hp → Prop}
variable {ops : Array Oper} {os : List Oper} {K' : Fr → Hp → Prop}
end Go.Fw
end
