/- A part of the proof: LwK, LwL, LwM, LwN, LwO, LwP, LwQ -/
import Derived.Test.YtmohgegpcfkooaaGreatDoorLwJ
set_option linter.all false
set_option linter.unusedSectionVars false
set_option linter.unusedVariables false
set_option linter.unusedSimpArgs false
section
namespace Go.Fw
variable [Gl]
variable {P : Program} {ρr : Option Nat} {n nb : Nat} {Q : LPo} {arr : Array Oper} {o : Oper} {os : List Oper} {κ : List Kt} {kn : Kn} {m : Fl} {h hf : Hp} {nx : Nat} {dl : List Nat} {dr : Dr}
theorem PK_mono {κa κb : List Kt} (hab : ∀ e m h nx hf dl, PK nb P ρr n Q κa e m h nx hf dl → PK nb P ρr n Q κb e m h nx hf dl) : ∀ (κ1 : List Kt) (e : Exit) (m : Fl) (h : Hp) (nx : Nat) (hf : Hp) (dl : List Nat),
    PK nb P ρr n Q (κ1 ++ κa) e m h nx hf dl → PK nb P ρr n Q (κ1 ++ κb) e m h nx hf dl
  | [], e, m, h, nx, hf, dl, hp => hab e m h nx hf dl hp
  | .sq y :: κ1, e, m, h, nx, hf, dl, hp => by
    cases e with
    | normal => exact WCL.mono (Q := PK nb P ρr n Q (κ1 ++ κa)) hp (fun e m h nx hf dl => PK_mono hab κ1 e m h nx hf dl)
    | _ => exact PK_mono hab κ1 _ _ _ _ _ _ hp
  | .bk id :: κ1, e, m, h, nx, hf, dl, hp => by
    cases e with
    | exit id' =>
      simp only [List.cons_append, PK, blkL] at hp ⊢
      split at hp
      · rename_i he; rw [if_pos he]; exact PK_mono hab κ1 _ _ _ _ _ _ hp
      · rename_i he; rw [if_neg he]; exact PK_mono hab κ1 _ _ _ _ _ _ hp
    | _ => exact PK_mono hab κ1 _ _ _ _ _ _ hp
  | .lp L :: κ1, e, m, h, nx, hf, dl, hp => by
    cases e with
    | normal => exact hp
    | _ => exact PK_mono hab κ1 _ _ _ _ _ _ hp
theorem WCL.rel (sg : Sg) {m2 : Fl} {h2 : Hp} {nx2 : Nat} {c : Code} (hr : Rel nb sg m h nx m2 h2 nx2) (hs : WCL nb P ρr n c m2 h2 nx2 hf dl Q) : WCL nb P ρr n c m h nx hf dl Q := fun ρ hg => by
  obtain ⟨a, g, en⟩ := hr.ent hg hf
  refine WC.ent en ((hs (cmp ρ sg) g).mono ?_)
  rintro e t' h' dl' ⟨ρ', m', h3, nx', hf', a2, g2, en2, q2⟩
  exact ⟨ρ', m', h3, nx', hf', a.trans a2, g2, en2, q2⟩
variable {α : Type} {y : Code}
theorem join_le (fr : α → Fl) (hp : α → Hp) (nx0 : Nat) (I : α → Prop) (hy : ∀ a, I a → Safe nb P ρr n Q (.code y κ [] (fr a) (hp a) nx0 hf dl)) :
    ∀ e m h nx hf' dl', PK nb P ρr n Q (.lp (Join nb fr hp nx0 hf dl I) :: κ) e m h nx hf' dl' → PK nb P ρr n Q (.sq y :: κ) e m h nx hf' dl' := fun e m h nx hf' dl' hq => by
  cases e with
  | normal =>
    obtain ⟨sg, b, hI, rfl, rfl, hr⟩ := hq
    exact WCL.rel sg hr (hy b hI knNil)
  | _ => exact hq
theorem DS.mono {fu : Nat} {L : List Nat} {K K' : KD} (hs : DS nb P ρr n arr fu L kn m h nx hf K) (hk : ∀ kn m h nx hf, K kn m h nx hf → K' kn m h nx hf) : DS nb P ρr n arr fu L kn m h nx hf K' := fun hkn ρ hg hn ht =>
  wA_mono (fun t' h' ⟨ρ', kn', m', h2, nx', hf', a, g, en, hk', q⟩ => ⟨ρ', kn', m', h2, nx', hf', a, g, en, hk', hk _ _ _ _ _ q⟩) _ _ _ _ (hs hkn ρ hg hn ht)
theorem Safe.cutO (κ1 : List Kt) (fr : α → Fl) (hp : α → Hp) (nx0 : Nat) (I : α → Prop) (hx : Safe nb P ρr n Q (.ops arr dr os (κ1 ++ .lp (Join nb fr hp nx0 hf dl I) :: κ) kn m h nx hf dl))
    (hy : ∀ a, I a → Safe nb P ρr n Q (.code y κ [] (fr a) (hp a) nx0 hf dl)) : Safe nb P ρr n Q (.ops arr dr os (κ1 ++ .sq y :: κ) kn m h nx hf dl) := by
  cases dr with
  | no => exact fun hk => (hx hk).mono fun m h nx hf => PK_mono (join_le fr hp nx0 I hy) κ1 _ _ _ _ _ _
  | at_ j ck => exact fun hd => DS.mono (hx hd) fun kn m h nx hf => PK_mono (join_le fr hp nx0 I hy) κ1 _ _ _ _ _ _
theorem Safe.cutC {c : Code} (κ1 : List Kt) (fr : α → Fl) (hp : α → Hp) (nx0 : Nat) (I : α → Prop) (hx : Safe nb P ρr n Q (.code c (κ1 ++ .lp (Join nb fr hp nx0 hf dl I) :: κ) kn m h nx hf dl))
    (hy : ∀ a, I a → Safe nb P ρr n Q (.code y κ [] (fr a) (hp a) nx0 hf dl)) : Safe nb P ρr n Q (.code c (κ1 ++ .sq y :: κ) kn m h nx hf dl) := fun hk =>
  (hx hk).mono fun e m h nx hf dl => PK_mono (join_le fr hp nx0 I hy) κ1 _ _ _ _ _ _
theorem Safe.cut1 {k0 : Kt} (fr : α → Fl) (hp : α → Hp) (nx0 : Nat) (I : α → Prop) (hx : Safe nb P ρr n Q (.ops arr dr os (k0 :: .lp (Join nb fr hp nx0 hf dl I) :: κ) kn m h nx hf dl))
    (hy : ∀ a, I a → Safe nb P ρr n Q (.code y κ [] (fr a) (hp a) nx0 hf dl)) : Safe nb P ρr n Q (.ops arr dr os (k0 :: .sq y :: κ) kn m h nx hf dl) := Safe.cutO [k0] fr hp nx0 I hx hy
theorem Safe.cut2 {k0 k1 : Kt} (fr : α → Fl) (hp : α → Hp) (nx0 : Nat) (I : α → Prop) (hx : Safe nb P ρr n Q (.ops arr dr os (k0 :: k1 :: .lp (Join nb fr hp nx0 hf dl I) :: κ) kn m h nx hf dl))
    (hy : ∀ a, I a → Safe nb P ρr n Q (.code y κ [] (fr a) (hp a) nx0 hf dl)) : Safe nb P ρr n Q (.ops arr dr os (k0 :: k1 :: .sq y :: κ) kn m h nx hf dl) := Safe.cutO [k0, k1] fr hp nx0 I hx hy
theorem Safe.cut0 (fr : α → Fl) (hp : α → Hp) (nx0 : Nat) (I : α → Prop) (hx : Safe nb P ρr n Q (.ops arr dr os (.lp (Join nb fr hp nx0 hf dl I) :: κ) kn m h nx hf dl))
    (hy : ∀ a, I a → Safe nb P ρr n Q (.code y κ [] (fr a) (hp a) nx0 hf dl)) : Safe nb P ρr n Q (.ops arr dr os (.sq y :: κ) kn m h nx hf dl) := Safe.cutO [] fr hp nx0 I hx hy
end Go.Fw
namespace Go.Fw
variable [Gl]
variable {P : Program} {ρr : Option Nat} {n nb : Nat} {Q : LPo} {arr : Array Oper} {o : Oper} {os : List Oper} {κ : List Kt} {kn : Kn} {m : Fl} {h hf : Hp} {nx : Nat} {dl : List Nat}
theorem Safe.frzO (k : Nat) {T : TypeId} {cs : List V} {nn : Nat} (hk : hget h k = some (.cells T cs nn)) (hd : cs.all dryV1 = true) (hs : Safe nb P ρr n Q (.ops arr .no os κ kn (frzM k cs m) (frzHp k cs (hdel h k)) nx hf dl)) : Safe nb P ρr n Q (.ops arr .no os κ kn m h nx hf dl) := fun hkn ρ hg => by
  obtain ⟨g, en⟩ := ent_frz (m := m) (hf := hf) hg hk hd
  exact RO.ent en (hs (hkn.frz k cs) ρ g)
theorem Safe.frzC (k : Nat) {c : Code} {T : TypeId} {cs : List V} {nn : Nat} (hk : hget h k = some (.cells T cs nn)) (hd : cs.all dryV1 = true) (hs : Safe nb P ρr n Q (.code c κ kn (frzM k cs m) (frzHp k cs (hdel h k)) nx hf dl)) : Safe nb P ρr n Q (.code c κ kn m h nx hf dl) := fun hkn ρ hg => by
  obtain ⟨g, en⟩ := ent_frz (m := m) (hf := hf) hg hk hd
  refine WC.ent en ((hs (hkn.frz k cs) ρ g).mono ?_)
  exact fun _ _ _ _ h => h
end Go.Fw
namespace Go.Fw
variable [Gl]
variable {P : Program} {m : Fl} {h hf : Hp} {o : Oper}
end Go.Fw
end

section
namespace Go.Fw
variable [Gl]
variable {P : Program} {ρr : Option Nat} {n nb : Nat} {Q : LPo} {arr : Array Oper} {o : Oper} {os : List Oper} {κ : List Kt} {kn : Kn} {m : Fl} {h hf : Hp} {nx : Nat} {dl : List Nat} {fu : Nat} {L : List Nat} {K : KD}
def isCvI (P : Program) (m : Fl) (o : Oper) : Option (IntKind × Int) := match o.op with
  | .convert s d x => match evX m x with
    | some (.int k n) => match tint P s with
      | some _ => match tint P d with
        | some k' => some (k', n)
        | none => none
      | none => none
    | _ => none
  | _ => none
end Go.Fw
namespace Go.Fw
variable [Gl]
variable {P : Program} {m : Fl} {h hf : Hp} {o : Oper}
def evI (m : Fl) : Option Operand → Option (Option Int)
  | none => some none
  | some y => match evX m y with
    | some (.int _ i) => some (some i)
    | _ => none
def isSlS (P : Program) (m : Fl) (o : Oper) : Option (List UInt8 × Option Int × Option Int) := match o.op with
  | .slice T x lo hi none => match evX m x with
    | some (.str s) => match tisstr P T with
      | true => match evI m lo with
        | some l => match evI m hi with
          | some r => some (s, l, r)
          | none => none
        | none => none
      | false => none
    | _ => none
  | _ => none
theorem evI_B {ρ : Nat → Option Nat} {x : Option Operand} {r : Option Int} {k : Nat} (d : Nat) (hx : evI m x = some r) (hk : r.getD (d : Int) = (k : Int)) : ∃ q, evB (renT ρ m) x = some q ∧ q.getD d = k := by
  unfold evI at hx
  split at hx
  · simp only [Option.some.injEq] at hx; subst hx; exact ⟨none, rfl, by simp only [Option.getD_none] at hk ⊢; omega⟩
  · split at hx
    · rename_i i hy
      simp only [Option.some.injEq] at hx; subst hx
      simp only [Option.getD_some] at hk
      refine ⟨some k, ?_, rfl⟩
      simp only [evB, evX_ren hy, renV, hk]
      rw [if_pos (by omega)]; simp
    · simp at hx
theorem eva_slS {s : List UInt8} {lo hi : Option Int} (l r : Nat) (hl : lo.getD ((0 : Nat) : Int) = (l : Int)) (hr : hi.getD (s.length : Int) = (r : Int)) (h1 : l ≤ r) (h2 : r ≤ s.length) (hc : isSlS P m o = some (s, lo, hi)) : EvA P m o (.str ((s.drop l).take (r - l))) := by
  intro ρ h ht
  unfold isSlS at hc
  split at hc
  · rename_i hop
    split at hc
    · rename_i hx
      split at hc
      · rename_i hT
        split at hc
        · rename_i hlo
          split at hc
          · rename_i hhi
            simp only [Option.some.injEq, Prod.mk.injEq] at hc
            obtain ⟨rfl, rfl, rfl⟩ := hc
            obtain ⟨q1, e1, g1⟩ := evI_B (ρ := ρ) 0 hlo hl
            obtain ⟨q2, e2, g2⟩ := evI_B (ρ := ρ) _ hhi hr
            have e3 : evB (renT ρ m) none = some none := rfl
            simp only [evP, hop, evX_ren hx, renV, e1, e2, e3, evSlice, g1, g2]
            rw [if_pos ⟨hT, trivial, h1, h2⟩]
          · simp at hc
        · simp at hc
      · simp at hc
    · simp at hc
  · simp at hc
theorem Safe.slS {ρr : Option Nat} {n nb : Nat} {Q : LPo} {arr : Array Oper} {os : List Oper} {κ : List Kt} {kn : Kn} {nx : Nat} {dl : List Nat} {d : Nat} {dr : Dr} {s : List UInt8} {lo hi : Option Int} (l r : Nat) (h1 : l ≤ r) (h2 : r ≤ s.length) (hc : isSlS P m o = some (s, lo, hi)) (hl : lo.getD ((0 : Nat) : Int) = (l : Int)) (hr : hi.getD (s.length : Int) = (r : Int)) (hrd : rdyO arr kn m n o = some d)
    (hs : Safe nb P ρr n Q (.ops arr dr.nx os κ ((d, none) :: kn) ((d, .str ((s.drop l).take (r - l))) :: m) h nx hf dl)) (hck : ckA h (.str ((s.drop l).take (r - l))) dr = true := by rfl) : Safe nb P ρr n Q (.ops arr dr (o :: os) κ kn m h nx hf dl) := Safe.valA (eva_slS l r hl hr h1 h2 hc) hrd hs hck
end Go.Fw
end

section
namespace Go.Fw
variable [Gl]
variable {P : Program} {ρr : Option Nat} {n nb : Nat} {Q : LPo} {arr : Array Oper} {o : Oper} {os : List Oper} {κ : List Kt} {kn : Kn} {m : Fl} {h hf : Hp} {nx : Nat} {dl : List Nat} {dr : Dr}
theorem Safe.gsK (c : Bool) {i : Nat} {b : Bool} (hv : gdT arr m o = some (i, .bool b)) (hb : b = c) (h1 : Safe nb P ρr n Q (.ops arr dr (o :: os) κ ((i, some c) :: kn) m h nx hf dl)) :
    Safe nb P ρr n Q (.ops arr dr (o :: os) κ kn m h nx hf dl) := by
  subst hb
  cases dr with
  | no => exact fun hk => h1 (hk.know (gdT_lk hv))
  | at_ j ck => exact fun hd hk => h1 hd (hk.know (gdT_lk hv))
theorem Safe.brT {i : Nat} {b : Bool} {x y : Code} (hv : lk m i = some (.bool b)) (hb : b = true) (h1 : Safe nb P ρr n Q (.code x κ ((i, some true) :: kn) m h nx hf dl)) :
    Safe nb P ρr n Q (.code (.cond (.tmp i) x y) κ kn m h nx hf dl) := Safe.br hv (fun _ => h1) (fun e => by rw [hb] at e; cases e)
theorem Safe.brF {i : Nat} {b : Bool} {x y : Code} (hv : lk m i = some (.bool b)) (hb : b = false) (h1 : Safe nb P ρr n Q (.code y κ ((i, some false) :: kn) m h nx hf dl)) :
    Safe nb P ρr n Q (.code (.cond (.tmp i) x y) κ kn m h nx hf dl) := Safe.br hv (fun e => by rw [hb] at e; cases e) (fun _ => h1)
end Go.Fw
end

section
namespace Go.Fw
variable [Gl]
variable {P : Program} {n : Nat} {m : Fl} {h : Hp} {nx nb : Nat}
def TriL (P : Program) (f : FuncId) (as : List V) (h : Hp) (nx : Nat) (Φ : V → Hp → Nat → Prop) : Prop :=
  ∀ ρ, good nx ρ nx h → Tri P f (renL ρ as) (renH ρ h) fun v h' => ∃ ρ' v0 h0 nx', agr nx ρ ρ' ∧ good nx ρ' nx' h0 ∧ v = renV ρ' v0 ∧ h' = renH ρ' h0 ∧ Φ v0 h0 nx'
theorem TriL.mono {f : FuncId} {as : List V} {Φ Ψ : V → Hp → Nat → Prop} (ht : TriL P f as h nx Φ) (hq : ∀ v h k, Φ v h k → Ψ v h k) : TriL P f as h nx Ψ := fun ρ hg =>
  (ht ρ hg).mono fun v h' ⟨ρ', v0, h0, nx', a, g, e1, e2, q⟩ => ⟨ρ', v0, h0, nx', a, g, e1, e2, hq _ _ _ q⟩
inductive FinL (nb : Nat) (P : Program) (rs : List ResultVar) (Φ : V → Hp → Nat → Prop) : Fl → Hp → Nat → Prop where
  | done {m : Fl} {h : Hp} {nx : Nat} {r : V} (hv : resA P m h rs = some r) (hq : Φ r h nx) : FinL nb P rs Φ m h nx
  | rel {m m2 : Fl} {h h2 : Hp} {nx nx2 : Nat} (sg : Sg) (hr : Rel nb sg m h nx m2 h2 nx2) (hs : FinL nb P rs Φ m2 h2 nx2) : FinL nb P rs Φ m h nx
  | frz {m : Fl} {h : Hp} {nx : Nat} (k : Nat) {T : TypeId} {cs : List V} {nn : Nat} (hk : hget h k = some (.cells T cs nn)) (hd : cs.all dryV1 = true) (hs : FinL nb P rs Φ (frzM k cs m) (frzHp k cs (hdel h k)) nx) : FinL nb P rs Φ m h nx
def RetL (nb : Nat) (P : Program) (rs : List ResultVar) (Φ : V → Hp → Nat → Prop) : LPo := fun e m h nx hf dl => (e = .normal ∨ e = .ret) ∧ hf = [] ∧ dl = [] ∧ FinL nb P rs Φ m h nx
theorem FinL.sound {rs : List ResultVar} {Φ : V → Hp → Nat → Prop} {hf : Hp} (hfin : FinL nb P rs Φ m h nx) : ∀ {ρ : Nat → Option Nat}, good nb ρ nx h → ∃ ρ' m2 h2 nx2 r0, agr nb ρ ρ' ∧ good nb ρ' nx2 h2 ∧ Ent (renT ρ m) (renH ρ h ++ hf) (renT ρ' m2) (renH ρ' h2 ++ hf) ∧ resA P m2 h2 rs = some r0 ∧ Φ r0 h2 nx2 := by
  induction hfin with
  | done hv hq => exact fun {ρ} hg => ⟨_, _, _, _, _, agr.refl _ _, hg, Ent.refl _ _, hv, hq⟩
  | rel sg hr hs ih =>
    intro ρ hg
    obtain ⟨a, g, en⟩ := hr.ent hg hf
    obtain ⟨ρ', m2, h2, nx2, r0, a2, g2, e2, hv, hq⟩ := ih g
    exact ⟨ρ', m2, h2, nx2, r0, a.trans a2, g2, en.trans e2, hv, hq⟩
  | frz k hk hd hs ih =>
    intro ρ hg
    obtain ⟨g1, e1⟩ := ent_frz (hf := hf) hg hk hd
    obtain ⟨ρ', m2, h2, nx2, r0, a2, g2, e2, hv, hq⟩ := ih g1
    exact ⟨ρ', m2, h2, nx2, r0, a2, g2, e1.trans e2, hv, hq⟩
theorem frA_renL (as : List V) (ρ : Nat → Option Nat) : frA (renL ρ as) = renT ρ (frm 0 as) := by
  funext i
  simp only [frA, renT, lk_frm as 0 i (Nat.zero_le _), Nat.sub_zero, renL_get]
theorem TriL.of_safe {f : FuncId} {fn : Func} {c : Code} {as : List V} {Φ : V → Hp → Nat → Prop} (hf : P.funcs[f]? = some fn) (hb : fn.body = some c) {rs : Array ResultVar} (hrs : fn.results = rs) (hn : fn.ntmps = n) (hl : Nat.ble as.length n = true)
    (hs : Safe nx P none n (RetL nx P rs.toList Φ) (.code c [] [] (frm 0 as) h nx [] [])) : TriL P f as h nx Φ := by
  intro ρ hg F w av ho ha
  subst hrs
  refine callsIn_of_wp_marks hf hb (FW_fn none f) ?_ rfl
  subst hn
  have hs' := hs knNil ρ hg
  have ho2 : Own F (renH ρ h ++ []) w := by rw [List.append_nil]; exact ho
  have hfr := frA_r ha (by rw [renL_length]; exact Nat.le_of_ble_eq_true hl)
  rw [frA_renL] at hfr
  refine wpIn_mono (hs' F w _ ho2 hfr) ?_
  rintro e ⟨tm, ds⟩ w' ⟨t', h', dl', F', ⟨ρ', m', h2, nx', hf', a, g, en, q⟩, ho', hf'', hd, tr⟩
  simp only at hd hf''
  subst hd
  obtain ⟨he, rfl, rfl, hfin⟩ := q
  obtain ⟨ρ3, m3, h3, nx3, r0, a3, g3, e3, hv, hq⟩ := hfin.sound (hf := []) g
  obtain ⟨F2, o2, f2, tr2⟩ := (en.trans e3) F' w' fn.ntmps tm ho' hf''
  have hres := resA_ren (hf := []) (vldT_of f2) o2.nodup hv
  have key := leaves_sound (fn := fn) (Φ := fun v h' => v = renV ρ3 r0 ∧ h' = renH ρ3 h3 ++ []) (R := fun e w' => ∃ v x h' F', e = .returned x ∧ (∃ ρ' v0 h0 nx', agr nx ρ ρ' ∧ good nx ρ' nx' h0 ∧ v = renV ρ' v0 ∧ h' = renH ρ' h0 ∧ Φ v0 h0 nx') ∧ Own F' h' w' ∧ VR F' v x ∧ Trans F (renH ρ h) w F' h' w') [] (renH ρ3 h3 ++ []) w' ⟨_, hres, rfl, rfl⟩ o2 f2
    (fun v x h4 w4 ⟨p1, p2⟩ o4 q4 tr4 => ⟨v, x, h4, F2, rfl, ⟨ρ3, r0, h3, nx3, a.trans a3, g3, p1, by rw [p2, List.append_nil], hq⟩, o4, q4, by have := tr.trans (tr2.trans tr4); rwa [List.append_nil] at this⟩)
  cases e with
  | normal => exact key
  | ret => exact key
  | _ => rcases he with h | h <;> cases h
end Go.Fw
end

section
namespace Go.Fw
variable [Gl]
variable {P : Program} {ρr : Option Nat} {n nb : Nat} {Q : LPo} {arr : Array Oper} {o : Oper} {os : List Oper} {κ : List Kt} {kn : Kn} {m : Fl} {h hf : Hp} {nx : Nat} {dl : List Nat}
def thr (ρ' s ρ2 : Nat → Option Nat) : Prop := ∀ k c, ρ' k = some c → ∃ j, s k = some j ∧ ρ2 j = some c
mutual
theorem renV_back {ρ' s ρ2 : Nat → Option Nat} (hs : thr ρ' s ρ2) {F : Froz} : ∀ (v : V) {x : Value}, VR F (renV ρ' v) x → VR F (renV ρ2 (renV s v)) x
  | .ptr b o, x, h => by
    simp only [renV] at h ⊢
    cases hb : ρ' b with
    | none => rw [hb] at h; simp only [imp] at h; exact absurd h.slice_le (by omega)
    | some c => rw [hb] at h; obtain ⟨j, h1, h2⟩ := hs b c hb; rw [h1]; simpa only [renV, h2] using h
  | .slice b o l k, x, h => by
    simp only [renV] at h ⊢
    cases hb : ρ' b with
    | none => rw [hb] at h; simp only [imp] at h; exact absurd h.slice_le (by omega)
    | some c => rw [hb] at h; obtain ⟨j, h1, h2⟩ := hs b c hb; rw [h1]; simpa only [renV, h2] using h
  | .map b, x, h => by
    simp only [renV] at h ⊢
    cases hb : ρ' b with
    | none => rw [hb] at h; simp only [imp] at h; exact absurd h.slice_le (by omega)
    | some c => rw [hb] at h; obtain ⟨j, h1, h2⟩ := hs b c hb; rw [h1]; simpa only [renV, h2] using h
  | .clo f cs, x, h => by
    simp only [renV] at h ⊢
    obtain ⟨vs, rfl, hv⟩ := h.clo_inv
    exact .of_clo ⟨by rw [hv.1]; simp, renL_back hs cs (fun i => vs.getD i undef) hv.2⟩
  | .iface t v, x, h => by
    simp only [renV] at h ⊢
    obtain ⟨y, rfl, hy⟩ := h.iface_inv
    exact .iface _ _ _ (renV_back hs v hy)
  | .agg cs, x, h => by
    simp only [renV] at h ⊢
    obtain ⟨vs, rfl, hv⟩ := h.agg_inv
    exact .of_agg ⟨by rw [hv.1]; simp, renL_back hs cs (fun i => vs.getD i undef) hv.2⟩
  | .tup cs, x, h => by
    simp only [renV] at h ⊢
    obtain ⟨vs, rfl, hv⟩ := h.tup_inv
    exact .of_tup ⟨by rw [hv.1]; simp, renL_back hs cs (fun i => vs.getD i undef) hv.2⟩
  | .int _ _, x, h | .bool _, x, h | .str _, x, h | .flt _ _, x, h | .nilptr, x, h | .fptr _ _, x, h | .nilslice, x, h | .fslice _ _, x, h | .eslice, x, h | .nilmap, x, h | .nilfunc, x, h | .yield _, x, h | .niliface, x, h => by
    simpa only [renV] using h
theorem renL_back {ρ' s ρ2 : Nat → Option Nat} (hs : thr ρ' s ρ2) {F : Froz} : ∀ (l : List V) (g : Nat → Value), (∀ (i : Nat) v, (renL ρ' l)[i]? = some v → VR F v (g i)) → ∀ (i : Nat) v, (renL ρ2 (renL s l))[i]? = some v → VR F v (g i)
  | [], g, h, i, v, hv => by simp [renL] at hv
  | u :: r, g, h, i, v, hv => by
    cases i with
    | zero =>
      simp only [renL, List.getElem?_cons_zero, Option.some.injEq] at hv
      subst hv
      exact renV_back hs u (h 0 _ (by simp [renL]))
    | succ i =>
      simp only [renL, List.getElem?_cons_succ] at hv
      exact renL_back hs r (fun j => g (j + 1)) (fun j w hw => h (j + 1) w (by simpa only [renL, List.getElem?_cons_succ] using hw)) i v hv
end
theorem renO_back {ρ' s ρ2 : Nat → Option Nat} (hs : thr ρ' s ρ2) {F : Froz} {o : AObj} {x : Obj} (h : OR F (renO ρ' o) x) : OR F (renO ρ2 (renO s o)) x := by
  cases o with
  | cells T cs n =>
    simp only [renO] at h ⊢
    cases h with
    | cells _ _ c fz hl hz hv => exact .cells T _ c fz (by simpa using hl) hz (renL_back hs cs (fun i => c.getD i undef) hv)
  | map es =>
    simp only [renO] at h ⊢
    cases h with
    | map _ xs clock hl hv hb hd =>
      refine .map _ xs clock (by simpa using hl) (fun i e y he hy => ?_) hb hd
      rw [List.getElem?_map, List.getElem?_map] at he
      simp only [Option.map_eq_some_iff] at he
      obtain ⟨_, ⟨e0, h0, rfl⟩, rfl⟩ := he
      have := hv i (renV ρ' e0.1, renV ρ' e0.2) y (by rw [List.getElem?_map, h0]; rfl) hy
      exact ⟨renV_back hs _ this.1, renV_back hs _ this.2⟩
  | _ => simpa only [renO] using h
theorem own_map {F : Froz} {w : World} {h1 h2 : Hp} (hns : h2.ns = h1.ns) (hmem : ∀ b o, (b, o) ∈ h2 → ∃ o1, (b, o1) ∈ h1 ∧ ∀ x, OR F o1 x → OR F o x) (ho : Own F h1 w) : Own F h2 w ∧ Trans F h1 w F h2 w := by
  refine ⟨⟨by rw [hns]; exact ho.nodup, fun b o hm => ?_, by rw [hns]; exact ho.off, ho.frz, ho.gl⟩, ?_⟩
  · obtain ⟨o1, h3, h4⟩ := hmem b o hm
    obtain ⟨x, hx, r⟩ := ho.own b _ h3
    exact ⟨x, hx, h4 x r⟩
  · have t1 := Trans.refl F h1 w
    exact ⟨t1.mono, t1.size, t1.keep, fun b hb => t1.names b (by rw [← hns]; exact hb), t1.fr, t1.os, t1.tape, t1.output, t1.drn⟩
end Go.Fw
end

section
namespace Go.Fw
variable [Gl]
variable {P : Program} {ρr : Option Nat} {n nb : Nat} {Q : LPo} {arr : Array Oper} {o : Oper} {os : List Oper} {κ : List Kt} {kn : Kn} {m : Fl} {h hf : Hp} {nx : Nat} {dl : List Nat}
def sgS (sg : Sg) (nb0 nx : Nat) : Nat → Option Nat := fun k => match sgF sg k with
  | some j => some j
  | none => match Nat.blt k nb0 with
    | true => none
    | false => some (nx + (k - nb0))
def rnw (ρ ρ' : Nat → Option Nat) (nb0 nx : Nat) : Nat → Option Nat := fun k => if k < nx then ρ k else ρ' (k - nx + nb0)
theorem rnw_le {ρ ρ' : Nat → Option Nat} {nb0 : Nat} (hf : ∀ k, nx ≤ k → ρ k = none) : rle ρ (rnw ρ ρ' nb0 nx) := fun k c hk => by
  have : k < nx := Nat.lt_of_not_le fun h => by rw [hf k h] at hk; cases hk
  simp only [rnw, if_pos this, hk]
theorem rnw_thr {ρ ρ' : Nat → Option Nat} {nb0 : Nat} {sg : Sg} (hf : ∀ k, nx ≤ k → ρ k = none) (hs : ∀ k, nb0 ≤ k → sgF sg k = none) (ha : agr nb0 (cmp ρ sg) ρ') : thr ρ' (sgS sg nb0 nx) (rnw ρ ρ' nb0 nx) := by
  intro k c hk
  by_cases hlt : k < nb0
  · rw [ha k hlt] at hk
    simp only [cmp] at hk
    cases hb : sgF sg k with
    | none => rw [hb] at hk; cases hk
    | some j =>
      rw [hb] at hk
      exact ⟨j, by simp only [sgS, hb], rnw_le hf j c hk⟩
  · have h1 := hs k (by omega)
    have h2 : Nat.blt k nb0 = false := by
      cases hb : Nat.blt k nb0 with
      | false => rfl
      | true => exact absurd (blt_lt hb) hlt
    refine ⟨nx + (k - nb0), by simp only [sgS, h1, h2], ?_⟩
    simp only [rnw]
    rw [if_neg (by omega), show nx + (k - nb0) - nx + nb0 = k by omega]
    exact hk
theorem thr_ky {ρ' s ρ2 : Nat → Option Nat} (hs : thr ρ' s ρ2) {k : Nat} (hk : (ρ' k).isSome = true) : ky ρ2 (ky s k) = ky ρ' k ∧ (ρ2 (ky s k)).isSome = true := by
  obtain ⟨c, hc⟩ := Option.isSome_iff_exists.1 hk
  obtain ⟨j, h1, h2⟩ := hs k c hc
  simp [ky, h1, h2, hc]
theorem Safe.callL {d nb0 : Nat} {f : FuncId} {as as' : List V} {h0 rest : Hp} {Φ : V → Hp → Nat → Prop} (sg : Sg) (hp : TriL P f as h0 nb0 Φ) (hc : callee? m o = some (f, as')) (has : renL (sgF sg) as = as') (hr : rdyO arr kn m n o = some d) (hok : (isGo P f && sgOk 0 nb0 sg h0) = true)
    (hperm : (relH sg h0 ++ rest).Perm h)
    (hs : ∀ v h' nx', Φ v h' nx' → Safe nb P ρr n Q (.ops arr .no os κ ((d, none) :: kn) ((d, renV (sgS sg nb0 nx) v) :: m) (renH (sgS sg nb0 nx) h' ++ rest) (nx + (nx' - nb0)) hf dl)) :
    Safe nb P ρr n Q (.ops arr .no (o :: os) κ kn m h nx hf dl) := by
  simp only [Bool.and_eq_true] at hok
  obtain ⟨hgo, hok⟩ := hok
  have hod : o.dst = some d := by
    have := hr
    unfold rdyO at this
    split at this
    · split at this
      · split at this
        · simp only [Option.some.injEq] at this; subst this; assumption
        · cases this
      · cases this
    · cases this
  refine Safe.callS hc hr fun ρ hg hn ht => ?_
  subst has
  have hr0 : Rel 0 sg m h nx [] h0 nb0 := ⟨trivial, ⟨_, hperm, List.sublist_append_left _ _⟩, hok⟩
  obtain ⟨_, g0, _⟩ := hr0.ent (nb := 0) ⟨hg.fresh, hg.keys, Nat.zero_le _⟩ []
  have gc : good nb0 (cmp ρ sg) nb0 h0 := ⟨g0.fresh, g0.keys, Nat.le_refl _⟩
  simp only [sgOk, Bool.and_eq_true] at hok
  obtain ⟨⟨⟨ok1, ok2⟩, ok3⟩, ok4⟩ := hok
  obtain ⟨hns, hmem⟩ := relH_ren (ρ := ρ) ok2
  have t0 := (hp (cmp ρ sg) gc).frame (renH ρ rest ++ hf)
  have hpm : (renH ρ (relH sg h0) ++ (renH ρ rest ++ hf)).Perm (renH ρ h ++ hf) := by
    rw [← List.append_assoc, ← renH_app]
    exact (hperm.map _).append_right hf
  have hns2 : (renH (cmp ρ sg) h0 ++ (renH ρ rest ++ hf)).ns = (renH ρ (relH sg h0) ++ (renH ρ rest ++ hf)).ns := by simp only [Hp.ns_append, hns]
  refine CallS.of_tri hgo ?_
  intro F w av ho ha
  have ho1 := ho.perm hpm
  obtain ⟨ho2, tr2⟩ := own_map (F := F) (w := w) hns2 (fun b o hm => by
    rcases List.mem_append.1 hm with hm | hm
    · obtain ⟨p, hp, rfl, hm'⟩ := hmem b o hm
      exact ⟨_, List.mem_append_left _ hm', fun x r => renO_cmp r⟩
    · exact ⟨o, List.mem_append_right _ hm, fun x r => r⟩) ho1
  have ha2 : VRs F (renL (cmp ρ sg) as) av := ⟨by rw [ha.1]; simp, renL_cmp as (fun i => av.getD i undef) ha.2⟩
  refine (t0 F w av ho2 ha2).mono ?_
  rintro e w' ⟨v, x, h', F', he, ⟨h1, rfl, ⟨ρ', v0, h0', nx', a, g, rfl, rfl, hq⟩, hdis⟩, ho', hx, tr⟩
  refine ⟨_, x, _, F', he, ⟨rnw ρ ρ' nb0 nx, renV (sgS sg nb0 nx) v0, renH (sgS sg nb0 nx) h0' ++ rest, nx + (nx' - nb0), hf, ?_, ⟨?_, ?_, ?_⟩, ?_, hs v0 h0' nx' hq⟩, ho', hx, ((Trans.perm hpm).trans tr2).trans tr⟩
  · intro k hk
    have := hg.base
    simp only [rnw, if_pos (show k < nx by omega)]
  · intro k hk
    have := g.base
    simp only [rnw]
    rw [if_neg (by omega)]
    exact g.fresh _ (by omega)
  · intro p hp
    rcases List.mem_append.1 hp with hp | hp
    · obtain ⟨q, hq1, rfl⟩ := List.mem_map.1 hp
      exact (thr_ky (rnw_thr hg.fresh (sgF_lt ok1) a) (g.keys q hq1)).2
    · obtain ⟨c, hc⟩ := Option.isSome_iff_exists.1 (hg.keys p (hperm.subset (List.mem_append_right _ hp)))
      rw [rnw_le hg.fresh _ _ hc]; rfl
  · have := hg.base; omega
  · have hthr := rnw_thr (ρ := ρ) (ρ' := ρ') hg.fresh (sgF_lt ok1) a
    have hle := rnw_le (ρ' := ρ') (nb0 := nb0) hg.fresh
    intro F2 w2 n2 tm ho3 hfr
    have hkr : keysOk ρ rest := fun p hp => hg.keys p (hperm.subset (List.mem_append_right _ hp))
    have hns3 : (renH (rnw ρ ρ' nb0 nx) (renH (sgS sg nb0 nx) h0' ++ rest) ++ hf).ns = (renH ρ' h0' ++ (renH ρ rest ++ hf)).ns := by
      rw [renH_app, List.append_assoc, Hp.ns_append, Hp.ns_append, Hp.ns_append, Hp.ns_append, renH_ns_le hle hkr]
      congr 1
      rw [renH_ns, renH_ns, renH_ns, List.map_map]
      refine List.map_congr_left fun k hk => ?_
      obtain ⟨p, hp, rfl⟩ := List.mem_map.1 hk
      exact (thr_ky hthr (g.keys p hp)).1
    obtain ⟨ho4, tr4⟩ := own_map (F := F2) (w := w2) hns3 (fun b o hm => by
      rw [renH_app, List.append_assoc] at hm
      rcases List.mem_append.1 hm with hm | hm
      · obtain ⟨q, hq1, e1⟩ := List.mem_map.1 hm
        obtain ⟨p, hp1, rfl⟩ := List.mem_map.1 hq1
        simp only [Prod.mk.injEq] at e1
        obtain ⟨rfl, rfl⟩ := e1
        refine ⟨renO ρ' p.2, List.mem_append_left _ (List.mem_map.2 ⟨p, hp1, by rw [(thr_ky hthr (g.keys p hp1)).1]⟩), fun x r => renO_back hthr r⟩
      · rcases List.mem_append.1 hm with hm | hm
        · obtain ⟨p, hp1, e1⟩ := List.mem_map.1 hm
          simp only [Prod.mk.injEq] at e1
          obtain ⟨rfl, rfl⟩ := e1
          exact ⟨renO ρ p.2, List.mem_append_right _ (List.mem_append_left _ (List.mem_map.2 ⟨p, hp1, by rw [ky_le hle (hkr p hp1)]⟩)), fun x r => renO_le hle r⟩
        · exact ⟨o, List.mem_append_right _ (List.mem_append_right _ hm), fun x r => r⟩) ho3
    refine ⟨F2, ho4, ⟨hfr.size, fun i v hv => ?_⟩, tr4⟩
    rw [renT_pu, hod] at hv
    have hat := hfr.at_ i
    rw [hod] at hat
    simp only [updO, upd] at hv hat
    split at hv
    · rename_i hi
      simp only [if_pos hi] at hat
      simp only [Option.some.injEq] at hv
      subst hv
      obtain ⟨x2, h2, r2⟩ := hat _ rfl
      exact ⟨x2, h2, renV_back hthr v0 r2⟩
    · rename_i hi
      simp only [if_neg hi] at hat
      unfold renT at hv hat
      simp only [Option.map_eq_some_iff] at hv
      obtain ⟨u, hu, rfl⟩ := hv
      obtain ⟨x2, h2, r2⟩ := hat (renV ρ u) (by rw [hu]; rfl)
      exact ⟨x2, h2, renV_le hle u r2⟩
end Go.Fw
end

section
namespace Go.Fw
variable [Gl]
variable {P : Program} {ρr : Option Nat} {n nb : Nat} {Q : LPo} {arr : Array Oper} {o : Oper} {os : List Oper} {κ : List Kt} {kn : Kn} {m : Fl} {h hf : Hp} {nx : Nat} {dl : List Nat} {dr : Dr}
theorem ent_new {ρ : Nat → Option Nat} {b : Nat} {mkl : V} {obl : AObj} {d : Option Nat} {h : Hp} (hx : ρ nx = none) (hk : keysOk ρ h) :
    Ent (updO (renT ρ m) d (renV (rex ρ nx b) mkl)) ((b, renO ρ obl) :: (renH ρ h ++ hf)) (renT (rex ρ nx b) (pu m d mkl)) (renH (rex ρ nx b) ((nx, obl) :: h) ++ hf) := by
  have hr := rex_le (b := b) hx
  rw [renT_pu]
  have e0 : ky (rex ρ nx b) nx = b := by simp [ky, rex]
  rw [renH_cons, List.cons_append]
  simp only [e0]
  refine Ent.trans (ent_le2 (pre := [(b, renO ρ obl)]) hr hk) ?_
  intro F w n tm ho hfr
  refine ⟨F, ⟨ho.nodup, fun b' o' hm => ?_, ho.off, ho.frz, ho.gl⟩, hfr, ⟨FLe.refl F, Nat.le_refl _, fun _ _ _ => rfl, fun b hb => .inl hb, fun _ hn => absurd rfl hn, rfl, rfl, rfl, Nat.le_refl _⟩⟩
  rcases List.mem_cons.1 hm with e | hm
  · simp only [Prod.mk.injEq] at e
    obtain ⟨rfl, rfl⟩ := e
    obtain ⟨x, hx, r⟩ := ho.own b' (renO ρ obl) (by simp)
    exact ⟨x, hx, renO_le hr r⟩
  · exact ho.own b' o' (by simp only [List.singleton_append]; exact List.mem_cons_of_mem _ hm)
theorem good.del {ρ : Nat → Option Nat} (hg : good nb ρ nx h) (k : Nat) : good nb ρ nx (hdel h k) where
  fresh := hg.fresh
  keys := fun p hp => by
    have : p.1 ∈ h.ns := hdel_ns_sub h k _ (List.mem_map.2 ⟨p, hp, rfl⟩)
    obtain ⟨q', hq', e⟩ := List.mem_map.1 this
    rw [← e]; exact hg.keys q' hq'
  base := hg.base
theorem evSrc_ren {ρ : Nat → Option Nat} {k mm : Nat} {x : V} {us : List V} (va : vld ρ x) (hs : evSrc h k x = some (us, mm)) (hd : us.all dry = true) (hn : (renH ρ h ++ hf).ns.Nodup) : evSrc (renH ρ h ++ hf) k (renV ρ x) = some (us, mm) := by
  have hdr := dryL_ren ρ hd
  unfold evSrc at hs
  split at hs
  · simp only [Option.some.injEq, Prod.mk.injEq] at hs; obtain ⟨rfl, rfl⟩ := hs; rfl
  · simp only [Option.some.injEq, Prod.mk.injEq] at hs; obtain ⟨rfl, rfl⟩ := hs; rfl
  · split at hs
    · rename_i hg
      split at hs
      · rename_i hl
        simp only [Option.some.injEq, Prod.mk.injEq] at hs
        obtain ⟨rfl, rfl⟩ := hs
        obtain ⟨c, hc⟩ := va
        have hg' := hget_ren (ρ := ρ) hg hn
        rw [ky_eq hc] at hg'
        simp only [renV, hc, evSrc, hg', renO, renL_length]
        rw [if_pos hl, renL_drop, renL_take, hdr]
      · simp at hs
    · simp at hs
  · split at hs
    · rename_i hl
      simp only [Option.some.injEq, Prod.mk.injEq] at hs
      obtain ⟨rfl, rfl⟩ := hs
      simp only [renV, evSrc]; rw [if_pos hl]
    · simp at hs
  · split at hs
    · rename_i hk
      simp only [Option.some.injEq, Prod.mk.injEq] at hs
      obtain ⟨rfl, rfl⟩ := hs
      simp only [renV, evSrc, if_pos hk]
    · simp at hs
  · simp at hs
def elemE (P : Program) (sT : TypeId) : Option (TypeId × Nat × Nat × List V) := match tslice P sT with
  | some e => match tsz P e with
    | some k => match tby P e with
      | some b => match tzero P e with
        | some z => match Nat.beq z.length k && Nat.blt 0 k && Nat.blt 0 b && Nat.ble b 1000000 with
          | true => some (e, k, b, z)
          | false => none
        | none => none
      | none => none
    | none => none
  | none => none
theorem elemE_ok {sT e : TypeId} {k b : Nat} {z : List V} (h : elemE P sT = some (e, k, b, z)) : ElemOk P sT e k b z := by
  unfold elemE at h
  split at h
  · rename_i h1
    split at h
    · rename_i h2
      split at h
      · rename_i h3
        split at h
        · rename_i h4
          split at h
          · rename_i h5
            simp only [Bool.and_eq_true] at h5
            simp only [Option.some.injEq, Prod.mk.injEq] at h
            obtain ⟨rfl, rfl, rfl, rfl⟩ := h
            exact ⟨h1, h2, h3, h4, Nat.eq_of_beq_eq_true h5.1.1.1, blt_lt h5.1.1.2, blt_lt h5.1.2⟩
          · simp at h
        · simp at h
      · simp at h
    · simp at h
  · simp at h
theorem elemE_b {sT e : TypeId} {k b : Nat} {z : List V} (h : elemE P sT = some (e, k, b, z)) : b ≤ 1000000 := by
  unfold elemE at h
  repeat' split at h
  all_goals first
    | (simp at h; done)
    | (rename_i h5
       simp only [Bool.and_eq_true] at h5
       simp only [Option.some.injEq, Prod.mk.injEq] at h
       obtain ⟨rfl, rfl, rfl, rfl⟩ := h
       exact Nat.le_of_ble_eq_true h5.2)
theorem rdyO_dst {d : Nat} (hr : rdyO arr kn m n o = some d) : o.dst = some d := by
  unfold rdyO at hr
  split at hr
  · split at hr
    · split at hr
      · simp only [Option.some.injEq] at hr; subst hr; assumption
      · cases hr
    · cases hr
  · cases hr
theorem bnd_app {x by_ : Nat} (h1 : by_ ≤ 1000000) (h2 : x ≤ 100000000) : (2 * x + 192) * by_ ≤ 281474976710656 :=
  Nat.le_trans (Nat.mul_le_mul (show 2 * x + 192 ≤ 200000192 by omega) h1) (by decide)
theorem Safe.appS {d k kk by_ len mm N : Nat} {sT e xT : TypeId} {a b : Operand} {z cs us cs2 : List V} {x : V} {len2 : Nat} (hop : o.op = .call { callee := .builtin .append, args := #[a, b], argTypes := #[sT, xT] }) (he : elemE P sT = some (e, kk, by_, z)) (hxT : appT P xT = true)
    (ha : evX m a = some (.slice k 0 len N)) (hb : evX m b = some x) (hg : hget h k = some (.cells e cs (N * kk))) (hsrc : evSrc h kk x = some (us, mm)) (hr : rdyO arr kn m n o = some d)
    (hcs2 : cs ++ us = cs2) (hl2 : len + mm = len2) (hlen : cs.length = len * kk) (hud : us.all dry = true) (hlf : us.all leafV = true) (hbd : len + mm ≤ 100000000)
    (hs : ∀ N', len2 ≤ N' → Safe nb P ρr n Q (.ops arr .no os κ ((d, none) :: kn) ((d, .slice nx 0 len2 N') :: m) ((nx, .cells e cs2 (N' * kk)) :: hdel h k) (nx + 1) hf dl)) :
    Safe nb P ρr n Q (.ops arr .no (o :: os) κ kn m h nx hf dl) := by
  subst hcs2 hl2
  have hbd2 := bnd_app (elemE_b he) hbd
  refine Safe.op hr (LS.real fun ρ hg2 hn ht => ?_)
  have ha' := evX_ren (ρ := ρ) ha
  obtain ⟨c, hc⟩ := evX_vld ht ha
  have hg' := hget_ren (ρ := ρ) hg hn
  have hdel' := hdel_ren (ρ := ρ) (hf := hf) hg hn
  rw [ky_eq hc] at hg' hdel'
  simp only [renV, hc] at ha'
  refine OpS.append_lin ⟨hop⟩ (elemE_ok he) hxT ha' (evX_ren hb) hg' (by rw [renL_length]; omega) (evSrc_ren (evX_vld ht hb) hsrc hud hn) hlf hbd2 fun q N' hq hN' => ?_
  rw [hdel'] at hq ⊢
  have e1 : (renL ρ cs).take (len * kk) ++ us = renL ρ (cs ++ us) := by
    rw [List.take_of_length_le (by rw [renL_length]; omega), renL_append, dryL_ren ρ hud]
  rw [e1]
  have hod := rdyO_dst hr
  have := ent_new (b := q) (mkl := .slice nx 0 (len + mm) N') (obl := .cells e (cs ++ us) (N' * kk)) (d := o.dst) (hf := hf) (m := m) (hg2.fresh nx (Nat.le_refl _)) (hg2.del k).keys
  simp only [renV, rex, if_pos, renO] at this
  exact ⟨rex ρ nx q, .slice nx 0 (len + mm) N', (nx, .cells e (cs ++ us) (N' * kk)) :: hdel h k, nx + 1, hf, agr_rex hg2.base q, (hg2.del k).push q _, this, hs N' hN'⟩
theorem Safe.appN {d kk by_ mm : Nat} {sT e xT : TypeId} {a b : Operand} {z us : List V} {x : V} (hop : o.op = .call { callee := .builtin .append, args := #[a, b], argTypes := #[sT, xT] }) (he : elemE P sT = some (e, kk, by_, z)) (hxT : appT P xT = true)
    (ha : evX m a = some .nilslice) (hb : evX m b = some x) (hsrc : evSrc h kk x = some (us, mm)) (hr : rdyO arr kn m n o = some d) (hm : 0 < mm) (hud : us.all dry = true) (hbd : mm ≤ 100000000)
    (hs : ∀ N', mm ≤ N' → Safe nb P ρr n Q (.ops arr .no os κ ((d, none) :: kn) ((d, .slice nx 0 mm N') :: m) ((nx, .cells e us (N' * kk)) :: h) (nx + 1) hf dl)) :
    Safe nb P ρr n Q (.ops arr .no (o :: os) κ kn m h nx hf dl) := by
  have hbd2 := bnd_app (elemE_b he) hbd
  refine Safe.op hr (LS.real fun ρ hg2 hn ht => ?_)
  have ha' := evX_ren (ρ := ρ) ha
  simp only [renV] at ha'
  refine OpS.append_nil ⟨hop⟩ (elemE_ok he) hxT ha' (evX_ren hb) (evSrc_ren (evX_vld ht hb) hsrc hud hn) (by simpa using hbd2) (fun h0 => absurd h0 (by omega)) (fun h0 q N' hq hN' => ?_)
  have hod := rdyO_dst hr
  have := ent_new (b := q) (mkl := .slice nx 0 mm N') (obl := .cells e us (N' * kk)) (d := o.dst) (hf := hf) (m := m) (hg2.fresh nx (Nat.le_refl _)) hg2.keys
  simp only [renV, rex, if_pos, renO, dryL_ren ρ hud] at this
  have h2 := hg2.push (nx := nx) q (.cells e us (N' * kk))
  refine ⟨rex ρ nx q, .slice nx 0 mm N', (nx, .cells e us (N' * kk)) :: h, nx + 1, hf, agr_rex hg2.base q, h2, ?_, hs N' (by omega)⟩
  exact this
def isIdxO (P : Program) (m : Fl) (o : Oper) : Option (Nat × Nat × Nat × Int × Nat) := match o.op with
  | .indexAddr T x i => match evX m x with
    | some (.slice b o' len cap) => match evX m i with
      | some (.int _ j) => match tslice P T with
        | some e => match tsz P e with
          | some k => some (b, o', len, j, k)
          | none => none
        | none => none
      | _ => none
    | some (.ptr b o') => match evX m i with
      | some (.int _ j) => match tarr P T with
        | some (len, e) => match tsz P e with
          | some k => some (b, o', len, j, k)
          | none => none
        | none => none
      | _ => none
    | _ => none
  | _ => none
theorem ev_idxO {b o' len k : Nat} {j : Int} {i : Nat} (hi : i < len) (hj : j = (i : Int)) (hc : isIdxO P m o = some (b, o', len, j, k)) : EvA P m o (.ptr b (o' + i * k)) := by
  intro ρ h ht
  subst hj
  unfold isIdxO at hc
  split at hc
  · rename_i hop
    split at hc
    · rename_i ha
      split at hc
      · rename_i hb
        split at hc
        · rename_i hT
          split at hc
          · rename_i hk
            simp only [Option.some.injEq, Prod.mk.injEq] at hc
            obtain ⟨rfl, rfl, rfl, rfl, rfl⟩ := hc
            obtain ⟨c, hcb⟩ := evX_vld ht ha
            simp only [evP, hop, evX_ren ha, evX_ren hb, renV, hcb, evIndexAddr, hT, hk]
            rw [if_pos (by omega)]
            simp
          · simp at hc
        · simp at hc
      · simp at hc
    · rename_i ha
      split at hc
      · rename_i hb
        split at hc
        · rename_i hT
          split at hc
          · rename_i hk
            simp only [Option.some.injEq, Prod.mk.injEq] at hc
            obtain ⟨rfl, rfl, rfl, rfl, rfl⟩ := hc
            obtain ⟨c, hcb⟩ := evX_vld ht ha
            simp only [evP, hop, evX_ren ha, evX_ren hb, renV, hcb, evIndexAddr, hT, hk]
            rw [if_pos (by omega)]
            simp
          · simp at hc
        · simp at hc
      · simp at hc
    · simp at hc
  · simp at hc
theorem Safe.idxO {d : Nat} {b o' len k : Nat} {j : Int} {i : Nat} (hi : i < len) (hj : j = (i : Int)) (hc : isIdxO P m o = some (b, o', len, j, k)) (hr : rdyO arr kn m n o = some d)
    (hs : Safe nb P ρr n Q (.ops arr dr.nx os κ ((d, none) :: kn) ((d, .ptr b (o' + i * k)) :: m) h nx hf dl)) (hck : ckA h (.ptr b (o' + i * k)) dr = true := by rfl) : Safe nb P ρr n Q (.ops arr dr (o :: os) κ kn m h nx hf dl) :=
  Safe.valA (ev_idxO hi hj hc) hr hs hck
def isLoadO (m : Fl) (h : Hp) (o : Oper) : Option (TypeId × List V × Nat) := match o.op with
  | .load T a => match evX m a with
    | some (.ptr b off) => match hget h b with
      | some (.cells _ cs _) => some (T, cs, off)
      | _ => none
    | _ => none
  | _ => none
theorem ev_ldO {T : TypeId} {cs : List V} {off : Nat} {v : V} (hv : ldAt P T cs off = some v) (hc : isLoadO m h o = some (T, cs, off)) : Ev P m h hf o v := by
  intro ρ hn ht
  unfold isLoadO at hc
  split at hc
  · rename_i hop
    split at hc
    · rename_i ha
      split at hc
      · rename_i hg
        simp only [Option.some.injEq, Prod.mk.injEq] at hc
        obtain ⟨rfl, rfl, rfl⟩ := hc
        obtain ⟨c, hcb⟩ := evX_vld ht ha
        have hg' := hget_ren (ρ := ρ) hg hn
        rw [ky_eq hcb] at hg'
        simp only [evP, hop, evX_ren ha, renV, hcb, Option.bind_some, evLoad, hg', renO]
        exact ldAt_ren hv
      · simp at hc
    · simp at hc
  · simp at hc
theorem Safe.ldO {d : Nat} {T : TypeId} {cs : List V} {off : Nat} {v : V} (hv : ldAt P T cs off = some v) (hc : isLoadO m h o = some (T, cs, off)) (hr : rdyO arr kn m n o = some d)
    (hs : Safe nb P ρr n Q (.ops arr dr.nx os κ ((d, none) :: kn) ((d, v) :: m) h nx hf dl)) (hck : ckV h o v dr = true := by rfl) : Safe nb P ρr n Q (.ops arr dr (o :: os) κ kn m h nx hf dl) :=
  Safe.val (ev_ldO hv hc) hr hs hck
def gdOk (arr : Array Oper) (kn : Kn) (m : Fl) (o : Oper) : Bool := match gsO arr kn m o with
  | .run => match o.dst with
    | none => true
    | _ => false
  | _ => false
theorem gdOk_run (hk : KnOk kn m) (hr : gdOk arr kn m o = true) : gdL arr m o true ∧ o.dst = none := by
  unfold gdOk at hr
  split at hr
  · rename_i hg
    split at hr
    · exact ⟨gsO_run hk hg, by assumption⟩
    · simp at hr
  · simp at hr
theorem Safe.opN (hr : gdOk arr kn m o = true) (hs : LS nb P ρr n o m h nx hf fun v h nx hf => Safe nb P ρr n Q (.ops arr .no os κ kn m h nx hf dl)) : Safe nb P ρr n Q (.ops arr .no (o :: os) κ kn m h nx hf dl) := fun hk => by
  obtain ⟨hg, hd⟩ := gdOk_run hk hr
  refine LO.run hg (dstOk_no hd) (hs.mono fun v h nx hf hq => ?_)
  rw [hd]
  exact hq hk
theorem Safe.stO {T T' : TypeId} {a x : Operand} {k off nn : Nat} {cs : List V} {v : V} (hop : o.op = .store T a x) (ha : evX m a = some (.ptr k off)) (hx : evX m x = some v) (hg : hget h k = some (.cells T' cs nn)) (hr : gdOk arr kn m o = true)
    (hsz : tsz P T = some (vcells v).length) (hl : off + (vcells v).length ≤ cs.length) (hlf : (vcells v).all leafV = true)
    (hs : Safe nb P ρr n Q (.ops arr .no os κ kn m (hset h k (.cells T' (stL cs off (vcells v)) nn)) nx hf dl)) : Safe nb P ρr n Q (.ops arr .no (o :: os) κ kn m h nx hf dl) := by
  refine Safe.opN hr (LS.real fun ρ gd hn ht => ?_)
  obtain ⟨c, hcb⟩ := evX_vld ht ha
  have hg' := hget_ren (ρ := ρ) hg hn
  have ha' := evX_ren (ρ := ρ) ha
  simp only [renV, hcb] at ha'
  refine OpS.store hop ha' (evX_ren hx) ?_
  simp only [WStore]
  rw [ky_eq hcb] at hg'
  simp only [hg', renO, vcells_ren, renL_length]
  refine ⟨hsz, hl, all_leaf_ren hlf, ρ, .tup [], _, nx, hf, agr.refl _ _, hset_keys gd, ?_, hs⟩
  have hset' := hset_ren (ρ := ρ) (hf := hf) (o' := .cells T' (stL cs off (vcells v)) nn) hg hn
  rw [ky_eq hcb] at hset'
  have hd : o.dst = none := by
    unfold gdOk at hr
    split at hr
    · split at hr
      · assumption
      · simp at hr
    · simp at hr
  rw [hd, ← hset', stL_ren]
  exact Ent.refl _ _
end Go.Fw
end
