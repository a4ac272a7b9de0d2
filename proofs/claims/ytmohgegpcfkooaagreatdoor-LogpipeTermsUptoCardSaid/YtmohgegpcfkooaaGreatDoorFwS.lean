/- A part of the proof: FwS, FwT, FwU, FwZ, FwAB, FwAC, FwAD -/
import Derived.Test.YtmohgegpcfkooaaGreatDoorFwR
import Derived.Scope
import Derived.Laws.RangeString
import Derived.Laws.Runes
import Derived.Lib.Overlaps
import Derived.Laws.Externs
set_option linter.all false
set_option linter.unusedSectionVars false
set_option linter.unusedVariables false
set_option linter.unusedSimpArgs false
section
namespace Go.Fw
variable [Gl]
variable {P : Program} {ρ : Option Nat} {n : Nat} {t : Fr} {h : Hp}
def RQ (I : Hp → Prop) (B : Code → Hp → Prop) : Po
  | .normal, _, h, _ => I h
  | .ret, _, h, _ => B .ret h
  | .exit id, _, h, _ => B (.exit id) h
  | .goto l, _, h, _ => B (.goto l) h
  | _, _, _, _ => False
def AbsF : Po := fun _ _ _ _ => False
def bindP : List Nat → List V → Fr → Fr
  | p :: ps, v :: vs, t => bindP ps vs (upd t p v)
  | _, _, t => t
theorem FrR.bindP {F : Froz} : ∀ (ps : List Nat) (vs : List V) (xs : List Value) (t : Fr) (tm : Array Value), FrR F n t tm → (∀ p, p ∈ ps → p < n) → vs.length = xs.length → (∀ i v, vs[i]? = some v → VR F v (xs.getD i undef)) →
    FrR F n (Fw.bindP ps vs t) ((ps.zip xs).foldl (fun tm (p, x) => tm.setIfInBounds p x) tm)
  | [], vs, xs, t, tm, hf, hp, hl, hv => by simpa [Fw.bindP] using hf
  | p :: ps, [], [], t, tm, hf, hp, hl, hv => by simpa [Fw.bindP] using hf
  | p :: ps, v :: vs, x :: xs, t, tm, hf, hp, hl, hv => by
    simp only [Fw.bindP, List.zip_cons_cons, List.foldl_cons]
    exact FrR.bindP ps vs xs _ _ (hf.upd (hp p (by simp)) (by simpa using hv 0 v rfl)) (fun q hq => hp q (by simp [hq])) (by simpa using hl) (fun i u hu => by simpa using hv (i + 1) u (by simpa using hu))
theorem zip_foldl {ps : Array Tmp} {av : Array Value} {tm : Array Value} : (ps.zip av).foldl (fun tm (p, x) => tm.setIfInBounds p x) tm = (ps.toList.zip av.toList).foldl (fun tm (p, x) => tm.setIfInBounds p x) tm := by
  rw [← Array.foldl_toList, Array.toList_zip]
theorem OR.loop_inv {F : Froz} {o : AObj} {x : Obj} {st : LoopState} {pend : Option Code} {ps : Array Tmp} {asg body : Code} {db : Nat} (h : OR F o x) (ho : o = .loop st pend n t ps asg body db) :
    ∃ L : Loop, x = .loop L ∧ L.state = st ∧ L.pending = pend ∧ L.params = ps ∧ L.assign = asg ∧ L.body = body ∧ L.defers = db ∧ FrR F n t L.tmps := by
  cases h with
  | loop n' t' L hf =>
    simp only [AObj.loop.injEq] at ho
    obtain ⟨h1, h2, rfl, rfl, h3, h4, h5, h6⟩ := ho
    exact ⟨L, rfl, h1, h2, h3, h4, h5, h6, hf⟩
  | _ => simp at ho
theorem hset_app {h hf : Hp} {l : Nat} {o o' : AObj} (hl : l ∉ h.ns) : hset (h ++ (l, o) :: hf) l o' = h ++ (l, o') :: hf := by
  induction h with
  | nil => simp [hset]
  | cons p r ih =>
    simp only [Hp.ns_cons, List.mem_cons, not_or] at hl
    simp only [List.cons_append, hset]
    rw [if_neg (fun e => hl.1 e.symm), ih hl.2]
theorem mem_mid {h hf : Hp} {l : Nat} {o : AObj} : (l, o) ∈ h ++ (l, o) :: hf := by simp
theorem ns_app_mem {h hf : Hp} {l : Nat} {o : AObj} : l ∈ (h ++ (l, o) :: hf).ns := by simp
theorem put_loop {F : Froz} {w : World} {h1 hf : Hp} {l r : Nat} {st st' : LoopState} {pend pend' : Option Code} {ps : Array Tmp} {asg body : Code}
    (ho : Own F (h1 ++ (l, .loop st pend n t ps asg body r) :: hf) w) (hl : l ∉ h1.ns) {L : Loop} (h3 : L.params = ps) (h4 : L.assign = asg) (h5 : L.body = body) (h6 : L.defers = r) (h7 : FrR F n t L.tmps) :
    Own F (h1 ++ (l, .loop st' pend' n t ps asg body r) :: hf) (w.putObj l (.loop { L with state := st', pending := pend' })) ∧
    Trans F (h1 ++ (l, .loop st pend n t ps asg body r) :: hf) w F (h1 ++ (l, .loop st' pend' n t ps asg body r) :: hf) (w.putObj l (.loop { L with state := st', pending := pend' })) := by
  subst h3 h4 h5 h6
  have hor : OR F (.loop st' pend' n t L.params L.assign L.body L.defers) (.loop { L with state := st', pending := pend' }) := .loop n t { L with state := st', pending := pend' } h7
  have a := ho.put (b := l) ns_app_mem hor
  have b := Trans.put (F := F) (w := w) (.loop st' pend' n t L.params L.assign L.body L.defers) (.loop { L with state := st', pending := pend' }) (ns_app_mem (h := h1) (hf := hf) (l := l) (o := .loop st pend n t L.params L.assign L.body L.defers))
  rw [hset_app hl] at a b
  exact ⟨a, b⟩
theorem YieldS.body {l r : Nat} {as : List V} {hb hf : Hp} {ps : Array Tmp} {asg body : Code} {I : Hp → Prop} {B : Code → Hp → Prop} (hp : ∀ p, p ∈ ps.toList → p < n) (hl : as.length = ps.size)
    (hw : WC P (some l) n asg (bindP ps.toList as t) hb [] (thn (fun t2 h2 dl2 => WC P (some l) n body t2 h2 dl2 (RQ I B)) AbsF)) :
    YieldS P l as (hb ++ (l, .loop .ready none n t ps asg body r) :: hf) fun v h' =>
      (v = .bool true ∧ ∃ h1, h' = h1 ++ (l, .loop .ready none n t ps asg body r) :: hf ∧ I h1 ∧ ∀ b, b ∈ h1.ns → b ∉ l :: hf.ns) ∨
      (v = .bool false ∧ ∃ h1 c, h' = h1 ++ (l, .loop .done (some c) n t ps asg body r) :: hf ∧ B c h1 ∧ ∀ b, b ∈ h1.ns → b ∉ l :: hf.ns) := by
  intro F w av ρ o a next Q' ho ha hn
  obtain ⟨x, hx, q⟩ := ho.own l _ mem_mid
  obtain ⟨L, rfl, e1, e2, e3, e4, e5, e6, hfr⟩ := q.loop_inv rfl
  rw [run_yield hx (by rw [ha.1, hl, e3]), Oper.uponIn_round]
  refine ⟨FW_depth ρ 0, roundIn_of_wpIn (F := FW ρ) trivial ?_⟩
  rw [zip_foldl, e3, e4, e5]
  have hfr1 := FrR.bindP ps.toList as av.toList t L.tmps hfr hp (by rw [← ha.1]; simp) (fun i v hv => by rw [getD_toList]; exact ha.2 i v hv)
  refine wpIn_mono (hw F w _ (ho.sub (List.sublist_append_left _ _)) hfr1) fun e a1 w1 hpost => ?_
  obtain ⟨t2, h2, dl2, F2, q2, o2, f2, d2, tr2⟩ := hpost
  cases e with
  | normal =>
    obtain ⟨g1, g2, g3⟩ := own_frame ho o2 tr2
    have hl2 : l ∉ h2.ns := fun hm => g3 l hm (by simp)
    obtain ⟨x, hx, q⟩ := g1.own l _ mem_mid
    obtain ⟨L1, rfl, k1, k2, k3, k4, k5, k6, hfr2⟩ := q.loop_inv rfl
    refine ⟨_, run_beginRound hx k1, ?_⟩
    have hputs := put_loop (st' := .busy) (pend' := none) g1 hl2 k3 k4 k5 k6 hfr2
    have eL : ({ L1 with state := .busy, pending := none } : Loop) = { L1 with state := .busy } := by rw [← k2]
    rw [eL] at hputs
    obtain ⟨p1, p2⟩ := hputs
    obtain ⟨tm1, ds1⟩ := a1
    simp only at d2 f2
    subst d2
    refine wpIn_mono (q2 F2 _ tm1 (p1.sub (List.sublist_append_left _ _)) f2) fun e a2 w3 hpost => ?_
    obtain ⟨t3, h3, dl3, F3, q3, o3, f3, d3, tr3⟩ := hpost
    obtain ⟨u1, u2, u3⟩ := own_frame p1 o3 tr3
    have hl3 : l ∉ h3.ns := fun hm => u3 l hm (by simp)
    obtain ⟨x, hx, q⟩ := u1.own l _ mem_mid
    obtain ⟨L3, rfl, m1, m2, m3, m4, m5, m6, hfr3⟩ := q.loop_inv rfl
    have fin : ∀ (jump : Option Code), (match jump with | none => I h3 | some c => B c h3) → ∃ v w', (Instr.endRound l jump).run P w3 = .ok v w' ∧ next (a.put o.dst v) w' := by
      intro jump hj
      refine ⟨_, _, run_endRound jump hx, ?_⟩
      obtain ⟨v1, v2⟩ := put_loop (st' := if jump.isNone then .ready else .done) (pend' := jump) u1 hl3 m3 m4 m5 m6 hfr3
      refine hn (.bool jump.isNone) _ _ F3 _ ?_ v1 (.bool _) (((g2.trans p2).trans u2).trans v2)
      cases jump with
      | none => exact .inl ⟨rfl, h3, rfl, hj, fun b hb hc => u3 b hb hc⟩
      | some c => exact .inr ⟨rfl, h3, c, rfl, hj, fun b hb hc => u3 b hb hc⟩
    cases e with
    | normal => exact fin none q3
    | ret => exact fin (some .ret) q3
    | exit id => exact fin (some (.exit id)) q3
    | goto g => exact fin (some (.goto g)) q3
    | panic ch => exact q3.elim
    | outgrown => exact q3.elim
  | exit id => exact q2.elim
  | goto g => exact q2.elim
  | ret => exact q2.elim
  | panic ch => exact q2.elim
  | outgrown => exact q2.elim
def IterC (P : Program) (f : FuncId) (caps : List V) (xs : List (List V)) : Prop := ∀ (l : Nat) (J : Nat → Hp → Prop) (S : Hp → Prop),
  (∀ k (hk : k < xs.length) h, J k h → YieldS P l xs[k] h fun v h' => (v = .bool true ∧ J (k + 1) h') ∨ (v = .bool false ∧ S h')) →
  ∀ h, J 0 h → Tri P f (.yield l :: caps) h fun _ h' => J xs.length h' ∨ S h'
theorem WC.range {g : Operand} {ps : Array Tmp} {asg body : Code} {f : FuncId} {caps : List V} {xs : List (List V)} {dl : List Nat} {Q : Po} (I : Nat → Hp → Prop) (B : Code → Hp → Prop)
    (hg : evO t g = some (.clo f caps)) (hgo : isGo P f = true) (hit : IterC P f caps xs) (hp : ∀ p, p ∈ ps.toList → p < n) (hl : ∀ a, a ∈ xs → a.length = ps.size) (h0 : I 0 h)
    (round : ∀ l k (hk : k < xs.length) h, I k h → WC P (some l) n asg (bindP ps.toList xs[k] t) h [] (thn (fun t2 h2 dl2 => WC P (some l) n body t2 h2 dl2 (RQ (I (k + 1)) B)) AbsF))
    (hend : ∀ r h, r ∉ h.ns → I xs.length h → Q .normal t ((r, .deferred) :: h) (r :: dl))
    (hjump : ∀ r h c, r ∉ h.ns → B c h → WC P none n c t ((r, .deferred) :: h) (r :: dl) Q) : WC P none n (.rangeFunc g ps asg body) t h dl Q := by
  intro F w tm ho hf
  refine wpIn_rangeFunc fun fn _ => ?_
  obtain ⟨cv, ef, hcv⟩ := (evO_r (ds := mks dl) hf hg).clo_inv
  let w0 := w.alloc (.deferred (some []))
  let L : Loop := { state := .ready, pending := none, fn := fn, tmps := tm, params := ps, assign := asg, body := body, defers := w.heap.size }
  let l := w.heap.size + 1
  let r := w.heap.size
  have hsz : w0.heap.size = l := World.size_alloc _ _
  have o0 : Own F ((r, .deferred) :: h) w0 := ho.push .deferred
  have tr0 : Trans F h w F ((r, .deferred) :: h) w0 := Trans.push F h w _ _
  have hor : OR F (.loop .ready none n t ps asg body r) (.loop L) := .loop n t L hf
  have o1 := o0.push hor
  have tr1 := Trans.push F ((r, .deferred) :: h) w0 (.loop .ready none n t ps asg body r) (.loop L)
  rw [hsz] at o1 tr1
  have hperm : (h ++ (l, AObj.loop .ready none n t ps asg body r) :: [(r, .deferred)]).Perm ((l, .loop .ready none n t ps asg body r) :: (r, .deferred) :: h) :=
    (List.perm_append_comm).trans (List.Perm.refl _)
  have o2 := o1.perm hperm
  have tr2 := (tr0.trans tr1).trans (Trans.perm hperm)
  have hargs : VRs F (.yield l :: caps) (#[Value.func (.yield l) #[] #[]] ++ cv) := by
    have := vrs_append (F := F) (a := [.yield l]) (b := caps) (av := #[Value.func (.yield l) #[] #[]]) (bv := cv) ⟨rfl, fun i v hv => by
      cases i with
      | zero => simp at hv; subst hv; simpa using VR.yield (F := F) l
      | succ i => simp at hv⟩ hcv
    simpa using this
  refine ⟨l, [{ target := .collected r, args := #[] }], w0.alloc (.loop L), { target := .fn (.func f) cv, args := #[Value.func (.yield l) #[] #[]] }, w0.alloc (.loop L), f, #[Value.func (.yield l) #[] #[]] ++ cv, w0.alloc (.loop L), run_enterLoop_outer fn tm ps asg body, ?_, fun _ _ => trivial, ?_, FW_depth none 0, ?_⟩
  · have e1 : ∀ x, Act.eval ⟨tm, mks dl⟩ (.const x) = x := fun _ => rfl
    simp [resolve, rangeCall, ef, e1, Deferred.ofValue]
  · simpa [invoke] using callFunc_go hgo
  · have hl0 : ∀ b, b ∈ h.ns → b ∉ [l, r] := fun b hb hc => by
      have := ho.lt hb
      simp only [List.mem_cons, List.not_mem_nil, or_false] at hc
      omega
    have hcall := hit l (fun k h' => ∃ h1, h' = h1 ++ (l, .loop .ready none n t ps asg body r) :: [(r, .deferred)] ∧ I k h1 ∧ ∀ b, b ∈ h1.ns → b ∉ [l, r])
      (fun h' => ∃ h1 c, h' = h1 ++ (l, .loop .done (some c) n t ps asg body r) :: [(r, .deferred)] ∧ B c h1 ∧ ∀ b, b ∈ h1.ns → b ∉ [l, r])
      (fun k hk h' ⟨h1, e, hI, hd⟩ => by
        subst e
        refine (YieldS.body (r := r) (I := I (k + 1)) (B := B) hp (hl _ (List.getElem_mem hk)) (round l k hk h1 hI)).mono ?_
        rintro v h' (⟨rfl, h2, rfl, hI2, hd2⟩ | ⟨rfl, h2, c, rfl, hB, hd2⟩)
        · exact .inl ⟨rfl, h2, rfl, hI2, hd2⟩
        · exact .inr ⟨rfl, h2, c, rfl, hB, hd2⟩)
      _ ⟨h, rfl, h0, hl0⟩ F (w0.alloc (.loop L)) _ o2 hargs
    refine hcall.mono ?_
    rintro e w3 ⟨v, x, h', F', rfl, hΦ, o3, hvr, tr3⟩
    have post : ∀ (h1 : Hp) (st : LoopState) (pend : Option Code), h' = h1 ++ (l, .loop st pend n t ps asg body r) :: [(r, .deferred)] → st ≠ .busy → (∀ b, b ∈ h1.ns → b ∉ [l, r]) →
        ∃ w4, (Instr.endLoop l).run P w3 = .ok pend w4 ∧ Own F' ((r, .deferred) :: h1) w4 ∧ Trans F h w F' ((r, .deferred) :: h1) w4 := by
      intro h1 st pend e hst hd
      subst e
      obtain ⟨y, hy, q⟩ := o3.own l _ mem_mid
      obtain ⟨L3, rfl, m1, m2, m3, m4, m5, m6, hfr3⟩ := q.loop_inv rfl
      have hl3 : l ∉ h1.ns := fun hm => hd l hm (by simp)
      subst m2
      obtain ⟨v1, v2⟩ := put_loop (st' := .exhausted) (pend' := L3.pending) o3 hl3 m3 m4 m5 m6 hfr3
      have hp2 : ((r, AObj.deferred) :: h1).Sublist ((l, .loop .exhausted L3.pending n t ps asg body r) :: (r, .deferred) :: h1) := List.sublist_cons_self _ _
      have hp3 : ((l, AObj.loop .exhausted L3.pending n t ps asg body r) :: (r, .deferred) :: h1).Perm (h1 ++ (l, .loop .exhausted L3.pending n t ps asg body r) :: [(r, .deferred)]) :=
        (List.perm_append_comm (l₁ := h1) (l₂ := (l, .loop .exhausted L3.pending n t ps asg body r) :: [(r, .deferred)])).symm
      refine ⟨_, run_endLoop hy (by rw [m1]; exact hst), ?_, ?_⟩
      · exact (v1.perm hp3).sub hp2
      · exact (((tr2.trans tr3).trans v2).trans (Trans.perm hp3)).trans (Trans.sub hp2)
    rcases hΦ with ⟨h1, e, hI, hd⟩ | ⟨h1, c, e, hB, hd⟩
    · obtain ⟨w4, he, o4, tr4⟩ := post h1 _ _ e (by simp) hd
      exact ⟨none, w4, he, t, _, r :: dl, F', hend r h1 (fun hm => hd r hm (by simp)) hI, o4, hf.mono tr4.mono, rfl, tr4⟩
    · obtain ⟨w4, he, o4, tr4⟩ := post h1 _ _ e (by simp) hd
      refine ⟨some c, w4, he, ?_⟩
      exact wpIn_mono (hjump r h1 c (fun hm => hd r hm (by simp)) hB F' w4 tm o4 (hf.mono tr4.mono)) fun _ _ _ => Post.from tr4
end Go.Fw
end

section
namespace Go.Fw
variable [Gl]
variable {P : Program} {n : Nat} {t : Fr} {h : Hp}
def dryLeaf : V → Bool
  | .int _ _ | .bool _ | .str _ | .flt _ _ | .nilptr | .nilslice | .nilmap | .nilfunc | .niliface => true
  | _ => false
def dryV : V → Bool
  | .int _ _ | .bool _ | .str _ | .flt _ _ | .nilptr | .nilslice | .nilmap | .nilfunc | .niliface => true
  | .tup l => l.all dryLeaf
  | _ => false
theorem leafV'_r {F F' : Froz} {v : V} {x : Value} (hd : dryLeaf v = true) (h : VR F v x) : VR F' v x := by
  cases h <;> first
    | (simp [dryLeaf] at hd; done)
    | constructor
theorem dryV_r {F F' : Froz} {v : V} {x : Value} (hd : dryV v = true) (h : VR F v x) : VR F' v x := by
  cases h <;> first
    | (simp [dryV] at hd; done)
    | (constructor; done)
    | skip
  rename_i cs vs hl h2
  simp only [dryV, List.all_eq_true] at hd
  exact .tup _ _ hl fun i v hv => leafV'_r (hd v (List.mem_of_getElem? hv)) (h2 i v hv)
def FDel (F : Froz) (b : Nat) : Froz := fun i => if i = b then none else F i
theorem PTri.any {f : FuncId} {us : List V} {r : V} (ht : Tri P f us [] fun v _ => v = r) : PTri P f us r :=
  Tri.vent ht fun v h' e => ⟨v, [], .drop (List.nil_sublist _) (.refl _ _), e, rfl⟩
theorem Tri.weak {f : FuncId} {us us' : List V} {Φ : V → Hp → Prop} (ht : Tri P f us' h Φ) (hu : us.length = us'.length) (hl : ∀ (i : Nat) u u', us[i]? = some u → us'[i]? = some u' → VLe u u') : Tri P f us h Φ := fun F w av ho ha =>
  ht F w av ho ⟨by rw [ha.1, hu], fun i v' hv' => by
    have hi : i < us.length := by rw [hu]; exact (List.getElem?_eq_some_iff.1 hv').1
    have hu' : us[i]? = some us[i] := by simp [hi]
    exact hl i _ _ hu' hv' _ _ (ha.2 i _ hu')⟩
end Go.Fw
end

section
namespace Go.Fw
variable [Gl]
variable {P : Program} {ρ : Option Nat} {n : Nat} {ops : Array Oper} {os : List Oper} {t : Fr} {h : Hp} {K : Fr → Hp → Prop}
theorem gToBytes {d : Nat} {sT dT e ty : TypeId} {x : Operand} {s : List UInt8} {pos : String} {after : Array Edge} {gd : Option (Nat × Bool)} (hs : tisstr P sT = true) (hd' : tisstr P dT = false) (hd : tslice P dT = some e) (he : tint P e = some .u8) (ha : evO t x = some (.str s))
    (hw : ∀ q N, q ∉ h.ns → s.length ≤ N → wOps P ρ n ops os (upd t d (.slice q 0 s.length N)) ((q, .cells e (byteCells s) N) :: h) K) (hn : d < n := by decide) (h5 : e = 5 := by rfl) : wGo P ρ n ops ⟨some d, .convert sT dT x, ty, pos, after, gd⟩ os t h K := by
  refine gOp (d := d) (OpS.toBytes rfl hs hd he ha hw h5) ?_ rfl hn
  funext K
  simp only [WOp, ha, hd', Bool.false_eq_true, if_false]
theorem bytesOf_cells : ∀ l : List UInt8, bytesOf (byteCells l) = some l
  | [] => rfl
  | c :: l => by
    have := bytesOf_cells l
    simp only [byteCells] at this
    simp only [byteCells, List.map_cons, bytesOf, this, Option.map_some]
    simp
theorem byteCells_length (l : List UInt8) : (byteCells l).length = l.length := by simp [byteCells]
theorem gOfBytes {d : Nat} {sT dT e T' ty : TypeId} {x : Operand} {l : List UInt8} {b len cap nn : Nat} {pos : String} {after : Array Edge} {gd : Option (Nat × Bool)} (hs : tslice P sT = some e) (he : tint P e = some .u8) (hd : tisstr P dT = true)
    (ha : evO t x = some (.slice b 0 len cap)) (hg : hget h b = some (.cells T' (byteCells l) nn)) (hl : len = l.length) (hw : wOps P ρ n ops os (upd t d (.str l)) h K) (hn : d < n := by decide) : wGo P ρ n ops ⟨some d, .convert sT dT x, ty, pos, after, gd⟩ os t h K := by
  refine gConv ha (fun l => by simp) ?_ hw hn
  simp only [evConv, hs, he, hd, hg, true_and, if_true]
  have e1 : List.take len (List.drop 0 (byteCells l)) = byteCells l := by rw [List.drop_zero, List.take_of_length_le (by rw [byteCells_length]; omega)]
  rw [if_pos (by rw [byteCells_length]; omega), e1, bytesOf_cells]
  rfl
theorem gOfNil {d : Nat} {sT dT e ty : TypeId} {x : Operand} {pos : String} {after : Array Edge} {gd : Option (Nat × Bool)} (hs : tslice P sT = some e) (he : tint P e = some .u8) (hd : tisstr P dT = true)
    (ha : evO t x = some .nilslice) (hw : wOps P ρ n ops os (upd t d (.str [])) h K) (hn : d < n := by decide) : wGo P ρ n ops ⟨some d, .convert sT dT x, ty, pos, after, gd⟩ os t h K := by
  refine gConv ha (fun l => by simp) ?_ hw hn
  simp [evConv, hs, he, hd]
theorem cells_at {l : List UInt8} {i : Nat} (h : i < l.length) : (byteCells l)[0 + ((i : Nat) : Int).toNat * 1]? = some (.int .u8 l[i].toNat) := by simp [byteCells, h]
theorem mapUp_same {f : UInt8 → UInt8} {s : List UInt8} {i : Nat} (h : i < s.length) (hf : f s[i] = s[i]) : (s.take i).map f ++ s.drop i = (s.take (i + 1)).map f ++ s.drop (i + 1) := by
  rw [List.take_succ_eq_append_getElem h, List.map_append, List.map_cons, hf, List.drop_eq_getElem_cons h]
  simp
theorem mapUp_get {f : UInt8 → UInt8} {s : List UInt8} {i : Nat} (h : i < s.length) : (byteCells ((s.take i).map f ++ s.drop i))[0 + ((i : Nat) : Int).toNat * 1]? = some (.int .u8 s[i].toNat) := by
  have hl : i < ((s.take i).map f ++ s.drop i).length := by simp; omega
  rw [cells_at hl]
  congr 3
  rw [List.getElem_append_right (by simp; omega)]
  simp [Nat.min_eq_left (Nat.le_of_lt h)]
theorem mapUp_set {f : UInt8 → UInt8} {s : List UInt8} {i : Nat} (h : i < s.length) : (byteCells ((s.take i).map f ++ s.drop i)).set (0 + ((i : Nat) : Int).toNat * 1) (.int .u8 (f s[i]).toNat) = byteCells ((s.take (i + 1)).map f ++ s.drop (i + 1)) := by
  have hl : ((s.take i).map f).length = i := by simp [Nat.min_eq_left (Nat.le_of_lt h)]
  rw [List.take_succ_eq_append_getElem h, List.drop_eq_getElem_cons h]
  simp only [byteCells, List.map_append, List.map_cons, Int.toNat_natCast, Nat.mul_one, Nat.zero_add]
  rw [List.set_append_right _ _ (by simp [Nat.min_eq_left (Nat.le_of_lt h)])]
  simp [Nat.min_eq_left (Nat.le_of_lt h)]
end Go.Fw
end

section
namespace Go.Fw
variable [Gl]
variable {P : Program} {ρ : Option Nat} {n : Nat} {ops : Array Oper} {os : List Oper} {t : Fr} {h : Hp} {K : Fr → Hp → Prop}
abbrev BS := Option (Nat × Nat)
def bsV : BS → List UInt8 → V
  | none, _ => .nilslice
  | some p, acc => .slice p.1 0 acc.length p.2
def bsH (e : TypeId) : BS → List UInt8 → Hp
  | none, _ => []
  | some p, acc => [(p.1, .cells e (byteCells acc) (p.2 * 1))]
theorem hget_app {hx r : Hp} {q : Nat} {o : AObj} (hq : q ∉ hx.ns) : hget (hx ++ (q, o) :: r) q = some o := by
  induction hx with
  | nil => simp [hget]
  | cons p hx ih =>
    simp only [Hp.ns_cons, List.mem_cons, not_or] at hq
    simp only [List.cons_append, hget]
    rw [if_neg (fun e => hq.1 e.symm), ih hq.2]
theorem hdel_app {hx r : Hp} {q : Nat} {o : AObj} (hq : q ∉ hx.ns) : hdel (hx ++ (q, o) :: r) q = hx ++ r := by
  induction hx with
  | nil => simp [hdel]
  | cons p hx ih =>
    simp only [Hp.ns_cons, List.mem_cons, not_or] at hq
    simp only [List.cons_append, hdel]
    rw [if_neg (fun e => hq.1 e.symm), ih hq.2]
theorem byteCells_leaf (l : List UInt8) : (byteCells l).all leafV = true := by simp [byteCells, leafV]
theorem byteCells_app (a b : List UInt8) : byteCells a ++ byteCells b = byteCells (a ++ b) := by simp [byteCells]
theorem OpS.appBs {o : Oper} {K : V → Hp → Prop} {sT e xT : TypeId} {a b : Operand} {by_ : Nat} {z : List V} {s : BS} {acc bs : List UInt8} {x : V} {hx : Hp} (hop : IsApp o sT xT a b) (he : ElemOk P sT e 1 by_ z) (hxT : appT P xT = true)
    (ha : evO t a = some (bsV s acc)) (hb : evO t b = some x) (hh : h = hx ++ bsH e s acc) (hq : ∀ q N, s = some (q, N) → q ∉ hx.ns) (hn : s = none → acc = [])
    (hs : evSrc h 1 x = some (byteCells bs, bs.length)) (hbd : (2 * (acc.length + bs.length) + 192) * by_ ≤ 281474976710656)
    (hk : ∀ s' : BS, (∀ q N, s' = some (q, N) → q ∉ hx.ns ∧ (acc ++ bs).length ≤ N) → (s' = none → acc ++ bs = []) → K (bsV s' (acc ++ bs)) (bsH e s' (acc ++ bs) ++ hx)) : OpS P ρ n o t h K := by
  subst hh
  cases s with
  | none =>
    have := hn rfl
    subst this
    refine OpS.append_nil hop he hxT ha hb hs (by simpa using hbd) (fun h0 => ?_) (fun h0 q N hq hN => ?_)
    · have : bs = [] := List.length_eq_zero_iff.1 h0
      subst this
      have := hk none (fun _ _ h => by simp at h) (fun _ => rfl)
      simpa [bsH, bsV] using this
    · have := hk (some (q, N)) (fun q' N' h => by simp at h; obtain ⟨rfl, rfl⟩ := h; exact ⟨by simpa [bsH] using hq, by simpa using hN⟩) (fun h => by simp at h)
      simpa [bsH, bsV] using this
  | some p =>
    obtain ⟨q, N⟩ := p
    have hqx := hq q N rfl
    refine OpS.append_lin hop he hxT ha hb (cs := byteCells acc) (hget_app hqx) (by simp [byteCells]) hs (byteCells_leaf bs) hbd fun q' N' hq' hN' => ?_
    have ed : hdel (hx ++ bsH e (some (q, N)) acc) q = hx := by
      show hdel (hx ++ [(q, _)]) q = hx
      rw [hdel_app hqx, List.append_nil]
    rw [ed] at hq' ⊢
    have := hk (some (q', N')) (fun q2 N2 h => by simp at h; obtain ⟨rfl, rfl⟩ := h; exact ⟨hq', by simpa using hN'⟩) (fun h => by simp at h)
    have et : (byteCells acc).take (acc.length * 1) = byteCells acc := List.take_of_length_le (by simp [byteCells])
    rw [et, byteCells_app]
    simpa [bsH, bsV] using this
theorem gOfBs {d : Nat} {sT dT e ty : TypeId} {x : Operand} {s : BS} {acc : List UInt8} {hx : Hp} {pos : String} {after : Array Edge} {gd : Option (Nat × Bool)} (hs : tslice P sT = some e) (he : tint P e = some .u8) (hd : tisstr P dT = true)
    (ha : evO t x = some (bsV s acc)) (hh : h = hx ++ bsH e s acc) (hq : ∀ q N, s = some (q, N) → q ∉ hx.ns) (hn0 : s = none → acc = []) (hw : wOps P ρ n ops os (upd t d (.str acc)) h K) (hn : d < n := by decide) : wGo P ρ n ops ⟨some d, .convert sT dT x, ty, pos, after, gd⟩ os t h K := by
  subst hh
  cases s with
  | none =>
    have := hn0 rfl
    subst this
    exact gOfNil hs he hd ha hw hn
  | some p => exact gOfBytes hs he hd ha (hget_app (hq p.1 p.2 rfl)) rfl hw hn
theorem evLen_bs {s : BS} {acc : List UInt8} (hn0 : s = none → acc = []) : evLen h (bsV s acc) = some (acc.length : Int) := by
  cases s with
  | none => have := hn0 rfl; subst this; rfl
  | some p => rfl
theorem lenFits_bs {T e : TypeId} {s : BS} {acc : List UInt8} (hT : tslice P T = some e) : lenFits P T (bsV s acc) = true := by
  cases s <;> simp [bsV, lenFits, hT]
end Go.Fw
end

section
namespace Go.Fw
variable [Gl]
variable {P : Program} {ρ : Option Nat} {n : Nat} {ops : Array Oper} {os : List Oper} {t : Fr} {h : Hp} {o : Oper}
def nogo (Q : Po) : Po
  | .goto _, _, _, _ => False
  | e, t, h, dl => Q e t h dl
theorem WC.scope {c : Code} {dl : List Nat} {Q : Po} (hw : WC P none n c t h dl (nogo Q)) : WC P none n (.scope c) t h dl Q := by
  intro F w tm ho hf
  refine wpIn_wide.2 (wp_scope_straight (wpIn_wide.1 (wpIn_mono (hw F w tm ho hf) fun e a w1 hp => ?_)))
  obtain ⟨t', h', dl', F', q, r⟩ := hp
  cases e with
  | goto l => exact q.elim
  | normal => exact ⟨t', h', dl', F', q, r⟩
  | exit id => exact ⟨t', h', dl', F', q, r⟩
  | ret => exact ⟨t', h', dl', F', q, r⟩
  | panic ch => exact ⟨t', h', dl', F', q, r⟩
  | outgrown => exact ⟨t', h', dl', F', q, r⟩
end Go.Fw
end

section
namespace Go.Fw
variable [Gl]
variable {P : Program} {ρ : Option Nat} {n : Nat} {ops : Array Oper} {os : List Oper} {t : Fr} {h : Hp} {K : Fr → Hp → Prop}
end Go.Fw
end

section
namespace Go.Fw
variable [Gl]
variable {P : Program} {ρ : Option Nat} {n : Nat} {o : Oper} {t : Fr} {h : Hp} {K : V → Hp → Prop}
theorem OpS.cap {T e : TypeId} {a : Operand} {b o' len c : Nat} (hop : o.op = .call { callee := .builtin .cap, args := #[a], argTypes := #[T] }) (hT : tslice P T = some e) (ha : evO t a = some (.slice b o' len c)) (hk : K (.int .i64 c) h) : OpS P ρ n o t h K := by
  refine OpS.of_value (by simp [hop]) fun F w tm D ho hf => ?_
  have ea := (evO_r (ds := D) hf ha).slice_inv
  refine ⟨_, .int .i64 c, _, F, w, ?_, hk, ho, .int _ _, Trans.refl _ _ _⟩
  simp [execOp, hop, resolve, invoke, builtin, Sem.run_bind, Builtin.cap_, tund_run (tslice_und hT), ea, goInt]
theorem OpS.append_zeros {sT e xT : TypeId} {a b : Operand} {k by_ len cap j p o' nn : Nat} {T : TypeId} {z cs : List V} {kn kx : IntKind} (hop : IsApp o sT xT a b) (he : ElemOk P sT e k by_ z) (hxT : P.underlying xT = some (.int kn)) (ha : evO t a = some (.slice p o' len cap)) (hb : evO t b = some (.int kx (j : Nat)))
    (hg : hget h p = some (.cells T cs nn)) (hl : o' + len * k ≤ cs.length) (hcap : cap < len + j) (hj : 0 < j) (hbd : (2 * (len + j) + 192) * by_ ≤ 281474976710656)
    (hk : ∀ q N, q ∉ h.ns → len + j ≤ N → K (.slice q 0 (len + j) N) ((q, .cells e ((cs.drop o').take (len * k) ++ zcells z (j * k)) (N * k)) :: h)) : OpS P ρ n o t h K := by
  refine OpS.of_value hop.defer fun F w tm D ho hf => ?_
  have ea := (evO_r (ds := D) hf ha).slice_inv
  have eb := (evO_r (ds := D) hf hb).int_inv
  obtain ⟨ov, hov, hor⟩ := own_first (P := P) (cap := cap) ho hg hl (w.drawn + 1)
  obtain ⟨i, hi, hib⟩ := tby_info he.bytes
  obtain ⟨zv, hz1, hz2⟩ := tzero_run (P := P) (w := { w with drawn := w.drawn + 1 }) he.zero
  have hnc := nextslicecap_le (len + j) cap hcap
  have hbp := he.bpos
  have hb' : ¬ (Builtin.nextslicecap (len + j) cap * i.bytes > 2 ^ 48) := by
    rw [hib]
    have : Builtin.nextslicecap (len + j) cap * by_ ≤ (2 * (len + j) + 192) * by_ := Nat.mul_le_mul_right _ hnc
    omega
  let N := (Question.appendCap (len + j) cap e).cut (w.tape w.drawn (.appendCap (len + j) cap e))
  have hN : len + j ≤ N := by show len + j ≤ (len + j) + _; omega
  have hjb : j ≤ j * by_ := Nat.le_mul_of_pos_right _ hbp
  have hjb2 : j * by_ ≤ (2 * (len + j) + 192) * by_ := Nat.mul_le_mul_right _ (by omega)
  have hw : IntKind.i64.wrap (j : Int) = j := wrap64_fit (by omega) (by omega)
  have hzr : VRs F (zcells z (j * k)) (Builtin.zeroCells zv.cells j) := by
    have := zcells_r (F := F) (hz2 F) (j * k) (.inr (by rw [he.zl]; exact he.pos))
    unfold Builtin.zeroCells
    have e1 : zv.cells.size = k := by rw [(hz2 F).1, he.zl]
    rw [e1] at this ⊢
    exact this
  have hzl : (zcells z (j * k)).length = j * k := by simp [zcells]
  have hol : ((cs.drop o').take (len * k)).length = len * k := by simp; omega
  refine ⟨.slice w.heap.size 0 (len + j) N, .slice (some ⟨w.heap.size, 0, none⟩) (len + j) N, _, F, ({ w with drawn := w.drawn + 1 } : World).alloc (.cells (ov ++ Builtin.zeroCells zv.cells j ++ Builtin.zeroCells zv.cells (N - (len + j))) e), hop.exec ?_, hk w.heap.size N ho.fresh hN, ?_, by simpa using VR.slice _ _ _ _ hN, ?_⟩
  · rw [ea, eb]
    unfold Builtin.append_
    have hti : (typeInfo e).run P w = .ok i w := by simp [typeInfo, Sem.run_bind, hi]
    have hti' : (typeInfo e).run P { w with drawn := w.drawn + 1 } = .ok i { w with drawn := w.drawn + 1 } := by simp [typeInfo, Sem.run_bind, hi]
    have hch : (choose (.appendCap (len + j) cap e)).run P w = .ok N { w with drawn := w.drawn + 1 } := by
      simp [choose, Sem.run, Question.forced, N]
    have hask : ∀ q, (askRoom q).run P { w with drawn := w.drawn + 1 } = .ok () { w with drawn := w.drawn + 1 } := by
      intro q
      unfold askRoom
      split
      · simp [mark, Sem.run]
      · simp
    have hb0 : ¬ (((len + j : Nat) : Int) > IntKind.i64.max ∧ (True ∨ i.bytes = 0)) := fun hh => by
      have h1 := hh.1
      have h2 : IntKind.i64.max = 9223372036854775807 := by decide
      rw [h2] at h1
      have : len + j ≤ (2 * (len + j) + 192) * by_ := Nat.le_trans (by omega) (Nat.le_mul_of_pos_right _ hbp)
      omega
    have h48 : ¬ ((j : Int) * (i.bytes : Int) > 2 ^ 48) := by
      rw [hib, ← Int.natCast_mul]
      omega
    have hjk : ¬ (j * k = 0) := Nat.mul_ne_zero (by omega) (by have := he.pos; omega)
    have hj0 : ¬ ((j : Int) < 0) := by omega
    simp only [List.getElem?_toArray, List.getElem?_cons_zero, List.getElem?_cons_succ, Sem.run_bind, tund_run (tslice_und he.sl), tsz_run he.sz, Result.andThen_ok, tund_run hxT, Sem.run_pure, if_true, asInt, asIntOf, hw]
    rw [if_neg hj0]
    simp only [Sem.run_bind, Sem.run_pure, Result.andThen_ok, hti]
    rw [if_neg h48]
    simp only [Sem.run_bind, Sem.run_pure, Result.andThen_ok, Int.toNat_natCast]
    rw [if_neg (by omega)]
    simp only [Sem.run_bind, hti, Result.andThen_ok]
    rw [if_neg hb0]
    simp only [Sem.run_bind, hti, Result.andThen_ok, Sem.run_pure]
    rw [if_neg hb']
    simp only [Sem.run_bind, Sem.run_pure, hch, hti', Result.andThen_ok, hask, hov, hz1, Bool.not_true, Bool.false_eq_true, if_false, if_neg hjk, newRow_run]
  · refine (ho.drawn (w.drawn + 1)).push ?_
    have hsz : (ov ++ Builtin.zeroCells zv.cells j ++ Builtin.zeroCells zv.cells (N - (len + j))).size = N * k := by
      have hzs : zv.cells.size = k := by rw [(hz2 F).1, he.zl]
      simp only [Array.size_append, Builtin.zeroCells, Array.size_map, Array.size_range, hzs, hor.1, hol]
      rw [← Nat.add_mul, ← Nat.add_mul]
      congr 1
      omega
    have := OR.cells (F := F) e ((cs.drop o').take (len * k) ++ zcells z (j * k)) (ov ++ Builtin.zeroCells zv.cells j ++ Builtin.zeroCells zv.cells (N - (len + j))) (0, 0) (by simp [hor.1, hzr.1]) (FzOk.zero _ _) (fun i v hv => ?_)
    · rwa [hsz] at this
    · have := (vrs_append hor hzr)
      have hlt := (List.getElem?_eq_some_iff.1 hv).1
      obtain ⟨x, hx, r⟩ := vrs_get this hv
      rw [Array.getD_eq_getD_getElem?, Array.getElem?_append_left (by rw [this.1]; exact hlt), hx]
      exact r
  · exact (Trans.drawn F h w (w.drawn + 1)).trans (Trans.push F h { w with drawn := w.drawn + 1 } _ _)
theorem putL_get2 {cs : List V} {o : Nat} {vs : List V} (h : o ≤ cs.length) (i : Nat) : (putL cs o vs)[i]? = if o ≤ i ∧ i < o + vs.length then vs[i - o]? else cs[i]? := by
  unfold putL
  by_cases h1 : i < o
  · rw [if_neg (by omega), List.append_assoc, List.getElem?_append_left (by simp; omega), List.getElem?_take_of_lt h1]
  · have ht : (cs.take o).length = o := by simp; omega
    by_cases h2 : i < o + vs.length
    · rw [if_pos ⟨by omega, h2⟩, List.append_assoc, List.getElem?_append_right (by omega), ht, List.getElem?_append_left (by omega)]
    · rw [if_neg (by omega), List.append_assoc, List.getElem?_append_right (by omega), ht, List.getElem?_append_right (by omega), List.getElem?_drop]
      congr 1
      omega
theorem own_first2 {F : Froz} {w : World} (ho : Own F h w) {b o' len l2 cap k nn : Nat} {T : TypeId} {cs : List V} (hg : hget h b = some (.cells T cs nn)) (hl : o' + len * k ≤ cs.length) :
    ∃ ov, (Builtin.firstCells k len (.slice (some ⟨b, o', none⟩) l2 cap)).run P w = .ok ov w ∧ VRs F ((cs.drop o').take (len * k)) ov := by
  obtain ⟨ov, h1, h2⟩ := own_first (P := P) (cap := cap) ho hg hl w.drawn
  exact ⟨ov, h1, h2⟩
theorem OpS.copyS {sT e xT : TypeId} {a b : Operand} {k l2 c2 o2 p2 nn2 len cap p o' nn : Nat} {T T2 : TypeId} {cs cs2 : List V} (hop : IsCopy o sT xT a b) (hsl : tslice P sT = some e) (hsz : tsz P e = some k) (ha : evO t a = some (.slice p o' len cap)) (hb : evO t b = some (.slice p2 o2 l2 c2))
    (hg : hget h p = some (.cells T cs nn)) (hg2 : hget h p2 = some (.cells T2 cs2 nn2)) (hl2 : o2 + (min l2 len) * k ≤ cs2.length) (hl : o' ≤ cs.length) (hln : o' + (min l2 len) * k ≤ nn) (hlf : ((cs2.drop o2).take ((min l2 len) * k)).all leafV = true)
    (hk : K (.int .i64 (min l2 len : Nat)) (hset h p (.cells T (putL cs o' ((cs2.drop o2).take ((min l2 len) * k))) nn))) : OpS P ρ n o t h K := by
  refine OpS.of_value (by simp [hop.op]) fun F w tm D ho hf => ?_
  have ea := (evO_r (ds := D) hf ha).slice_inv
  have ex := (evO_r (ds := D) hf hb).slice_inv
  obtain ⟨uv, hu, hur⟩ := own_first2 (P := P) (l2 := l2) (cap := c2) ho hg2 hl2
  obtain ⟨c, fz, hc, hl', rfl, hz, hr⟩ := own_cells ho hg
  have hlen : ((cs2.drop o2).take (min l2 len * k)).length = min l2 len * k := by simp; omega
  generalize (cs2.drop o2).take (min l2 len * k) = us at *
  have hst := run_storeCells (P := P) (b := p) (T := T) (fz := fz) uv.toList w c o' 0 hc (by have := hur.1; simp only [Nat.add_zero, Array.length_toList]; omega) hz (vrs_leaf hur hlf)
  refine ⟨_, .int .i64 ((min l2 len : Nat) : Int), _, F, w.putObj p (.cells (putA c o' uv.toList) T fz), hop.exec ?_, hk, ho.put (hget_ns hg) ?_, .int _ _, Trans.put _ _ (hget_ns hg)⟩
  · rw [ea, ex]
    unfold Builtin.copy_
    have : Nat.min l2 len = min l2 len := rfl
    simp only [List.getElem?_toArray, List.getElem?_cons_zero, List.getElem?_cons_succ, Sem.run_bind, tund_run (tslice_und hsl), tsz_run hsz, Result.andThen_ok, Builtin.lenOf, Sem.run_pure, this, hu, hst, Nat.add_zero, goInt]
  · have hpl : (putL cs o' us).length ≤ c.size := by simp [putL]; omega
    have := OR.cells (F := F) T (putL cs o' us) (putA c o' uv.toList) fz (by rw [putA_size]; exact hpl) (by rw [putA_size]; exact hz) (fun i v hv => ?_)
    · rwa [putA_size] at this
    · have hs0 : uv.toList.length = us.length := by simpa using hur.1
      have hi : i < (putL cs o' us).length := (List.getElem?_eq_some_iff.1 hv).1
      rw [putL_get2 hl] at hv
      rw [Array.getD_eq_getD_getElem?, putA_get]
      by_cases hcc : o' ≤ i ∧ i < o' + us.length
      · rw [if_pos hcc] at hv
        rw [if_pos ⟨hcc.1, by rw [hs0]; exact hcc.2, by omega⟩]
        obtain ⟨x', hx', r⟩ := vrs_get hur hv
        rw [Array.getElem?_toList, hx']; exact r
      · rw [if_neg hcc] at hv
        rw [if_neg (fun h => hcc ⟨h.1, by rw [← hs0]; exact h.2.1⟩)]
        have := hr i v hv
        rwa [Array.getD_eq_getD_getElem?] at this
structure IsOverlaps (P : Program) (f : FuncId) (tS tR e : TypeId) (k : Nat) : Prop where
  fn : ∃ fn, P.funcs[f]? = some fn ∧ (fn.name == "runtime.NumGoroutine") = false ∧ fn.body.isNone = true ∧ Extern.findNext fn = none ∧ Extern.find fn = some (Extern.SlicesOverlaps.overlaps #[tS, tS] #[tR])
  sl : tslice P tS = some e
  sz : tsz P e = some k
theorem CallS.overlaps {f : FuncId} {tS tR e : TypeId} {k b1 l1 c1 b2 o2 l2 c2 n1 n2 : Nat} {T1 T2 : TypeId} {cs1 cs2 : List V} (hv : IsOverlaps P f tS tR e k) (hne : b1 ≠ b2) (h1 : hget h b1 = some (.cells T1 cs1 n1)) (h2 : hget h b2 = some (.cells T2 cs2 n2)) (hn1 : 0 < n1) (hn2 : 0 < n2) (hT1 : T1 ≠ 5)
    (hk : K (.bool false) h) : CallS P f [.slice b1 0 l1 c1, .slice b2 o2 l2 c2] h K := by
  intro F w av ρ o a next Q' ho hav hn
  obtain ⟨fn, hf, hnm, hbd, hfn, hfe⟩ := hv.fn
  obtain ⟨x1, e1, r1⟩ := vrs_get hav (i := 0) rfl
  obtain ⟨x2, e2, r2⟩ := vrs_get hav (i := 1) rfl
  have r1 := r1.slice_inv
  have r2 := r2.slice_inv
  have hsz := hav.1
  simp only [List.length_cons, List.length_nil] at hsz
  have eav : av = #[x1, x2] := by
    apply Array.ext_getElem?
    intro i
    match i with
    | 0 => simpa using e1
    | 1 => simpa using e2
    | i + 2 => rw [Array.getElem?_eq_none (by omega), Array.getElem?_eq_none (by simp)]
  subst r1 r2
  obtain ⟨c, fz, hc, hl, rfl, hz, hr⟩ := own_cells ho h1
  obtain ⟨c', fz', hc', hl', rfl, hz', hr'⟩ := own_cells ho h2
  have s1 : w.shape? b1 = some (T1, c.size) := by unfold World.shape?; rw [hc]
  have s2 : w.shape? b2 = some (T2, c'.size) := by unfold World.shape?; rw [hc']
  have f1 : ∀ i, i < c.size ∨ (i = c.size ∧ T1 ≠ 5) → w.frozen? ⟨b1, i, none⟩ = false := fun i hi => by
    unfold World.frozen?
    simp only [hc]
    have := hz i hi
    obtain ⟨g1, g2⟩ := fz
    simp only at this ⊢
    simp only [Bool.and_eq_false_imp, decide_eq_true_eq, decide_eq_false_iff_not]
    intro a1 a2
    exact this ⟨a1, a2⟩
  have hr := Lib.run_overlaps_apart (P := P) w tS tR e (tslice_und hv.sl) k (fun w => tsz_run hv.sz) ⟨b1, 0, none⟩ ⟨b2, o2, none⟩ l1 c1 l2 c2 hne T1 T2 c.size c'.size s1 s2 (by omega) (f1 0 (.inl hn1)) (f1 c.size (.inr ⟨rfl, hT1⟩))
  rw [run_callFunc_extern hf hnm hbd hfn hfe, eav, hr]
  exact hn _ _ _ _ _ hk ho (.bool false) (Trans.refl _ _ _)
variable {ops : Array Oper} {os : List Oper} {K' : Fr → Hp → Prop}
end Go.Fw
end
