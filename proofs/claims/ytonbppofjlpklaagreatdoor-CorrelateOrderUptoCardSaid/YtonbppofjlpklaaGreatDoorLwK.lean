/- A part of the proof: LwK, LwL, LwM, LwN, LwO, LwP, LwQ -/
import Derived.Test.YtonbppofjlpklaaGreatDoorLwJ
set_option linter.all false
set_option linter.unusedSectionVars false
set_option linter.unusedVariables false
set_option linter.unusedSimpArgs false
section
namespace Go.Fw
variable [Gl]
variable {P : Program} {ρr : Option Nat} {n nb : Nat} {Q : LPo} {arr : Array Oper} {o : Oper} {os : List Oper} {κ : List Kt} {kn : Kn} {m : Fl} {h hf : Hp} {nx : Nat} {dl : List Nat} {dr : Dr}
theorem PK_mono {κa κb : List Kt} (hab : ∀ e m h nx hf dl, PK nb P ρr n Q κa e m h nx hf dl → PK nb P ρr n Q κb e m h nx hf dl) : ∀ (κ1 : List Kt) (e : Exit) (m : Fl) (h : Hp) (nx : Nat) (hf : Hp) (dl : List Nat),
    PK nb P ρr n Q (κ1 ++ κa) e m h nx hf dl → PK nb P ρr n Q (κ1 ++ κb) e m h nx hf dl
  | [], e, m, h, nx, hf, dl, hp => hab e m h nx hf dl hp
  | .sq y :: κ1, e, m, h, nx, hf, dl, hp => by
    cases e with
    | normal => exact WCL.mono (Q := PK nb P ρr n Q (κ1 ++ κa)) hp (fun e m h nx hf dl => PK_mono hab κ1 e m h nx hf dl)
    | _ => exact PK_mono hab κ1 _ _ _ _ _ _ hp
  | .bk id :: κ1, e, m, h, nx, hf, dl, hp => by
    cases e with
    | exit id' =>
      simp only [List.cons_append, PK, blkL] at hp ⊢
      split at hp
      · rename_i he; rw [if_pos he]; exact PK_mono hab κ1 _ _ _ _ _ _ hp
      · rename_i he; rw [if_neg he]; exact PK_mono hab κ1 _ _ _ _ _ _ hp
    | _ => exact PK_mono hab κ1 _ _ _ _ _ _ hp
  | .lp L :: κ1, e, m, h, nx, hf, dl, hp => by
    cases e with
    | normal => exact hp
    | _ => exact PK_mono hab κ1 _ _ _ _ _ _ hp
theorem WCL.rel (sg : Sg) {m2 : Fl} {h2 : Hp} {nx2 : Nat} {c : Code} (hr : Rel nb sg m h nx m2 h2 nx2) (hs : WCL nb P ρr n c m2 h2 nx2 hf dl Q) : WCL nb P ρr n c m h nx hf dl Q := fun ρ hg => by
  obtain ⟨a, g, en⟩ := hr.ent hg hf
  refine WC.ent en ((hs (cmp ρ sg) g).mono ?_)
  rintro e t' h' dl' ⟨ρ', m', h3, nx', hf', a2, g2, en2, q2⟩
  exact ⟨ρ', m', h3, nx', hf', a.trans a2, g2, en2, q2⟩
variable {α : Type} {y : Code}
theorem join_le (fr : α → Fl) (hp : α → Hp) (nx0 : Nat) (I : α → Prop) (hy : ∀ a, I a → Safe nb P ρr n Q (.code y κ [] (fr a) (hp a) nx0 hf dl)) :
    ∀ e m h nx hf' dl', PK nb P ρr n Q (.lp (Join nb fr hp nx0 hf dl I) :: κ) e m h nx hf' dl' → PK nb P ρr n Q (.sq y :: κ) e m h nx hf' dl' := fun e m h nx hf' dl' hq => by
  cases e with
  | normal =>
    obtain ⟨sg, b, hI, rfl, rfl, hr⟩ := hq
    exact WCL.rel sg hr (hy b hI knNil)
  | _ => exact hq
theorem DS.mono {fu : Nat} {L : List Nat} {K K' : KD} (hs : DS nb P ρr n arr fu L kn m h nx hf K) (hk : ∀ kn m h nx hf, K kn m h nx hf → K' kn m h nx hf) : DS nb P ρr n arr fu L kn m h nx hf K' := fun hkn ρ hg hn ht =>
  wA_mono (fun t' h' ⟨ρ', kn', m', h2, nx', hf', a, g, en, hk', q⟩ => ⟨ρ', kn', m', h2, nx', hf', a, g, en, hk', hk _ _ _ _ _ q⟩) _ _ _ _ (hs hkn ρ hg hn ht)
theorem Safe.cutO (κ1 : List Kt) (fr : α → Fl) (hp : α → Hp) (nx0 : Nat) (I : α → Prop) (hx : Safe nb P ρr n Q (.ops arr dr os (κ1 ++ .lp (Join nb fr hp nx0 hf dl I) :: κ) kn m h nx hf dl))
    (hy : ∀ a, I a → Safe nb P ρr n Q (.code y κ [] (fr a) (hp a) nx0 hf dl)) : Safe nb P ρr n Q (.ops arr dr os (κ1 ++ .sq y :: κ) kn m h nx hf dl) := by
  cases dr with
  | no => exact fun hk => (hx hk).mono fun m h nx hf => PK_mono (join_le fr hp nx0 I hy) κ1 _ _ _ _ _ _
  | at_ j ck => exact fun hd => DS.mono (hx hd) fun kn m h nx hf => PK_mono (join_le fr hp nx0 I hy) κ1 _ _ _ _ _ _
theorem Safe.cut0 (fr : α → Fl) (hp : α → Hp) (nx0 : Nat) (I : α → Prop) (hx : Safe nb P ρr n Q (.ops arr dr os (.lp (Join nb fr hp nx0 hf dl I) :: κ) kn m h nx hf dl))
    (hy : ∀ a, I a → Safe nb P ρr n Q (.code y κ [] (fr a) (hp a) nx0 hf dl)) : Safe nb P ρr n Q (.ops arr dr os (.sq y :: κ) kn m h nx hf dl) := Safe.cutO [] fr hp nx0 I hx hy
end Go.Fw
namespace Go.Fw
variable [Gl]
variable {P : Program} {ρr : Option Nat} {n nb : Nat} {Q : LPo} {arr : Array Oper} {o : Oper} {os : List Oper} {κ : List Kt} {kn : Kn} {m : Fl} {h hf : Hp} {nx : Nat} {dl : List Nat}
theorem Safe.frzC (k : Nat) {c : Code} {T : TypeId} {cs : List V} {nn : Nat} (hk : hget h k = some (.cells T cs nn)) (hd : cs.all dryV1 = true) (hs : Safe nb P ρr n Q (.code c κ kn (frzM k cs m) (frzHp k cs (hdel h k)) nx hf dl)) : Safe nb P ρr n Q (.code c κ kn m h nx hf dl) := fun hkn ρ hg => by
  obtain ⟨g, en⟩ := ent_frz (m := m) (hf := hf) hg hk hd
  refine WC.ent en ((hs (hkn.frz k cs) ρ g).mono ?_)
  exact fun _ _ _ _ h => h
end Go.Fw
namespace Go.Fw
variable [Gl]
variable {P : Program} {m : Fl} {h hf : Hp} {o : Oper}
end Go.Fw
end

section
namespace Go.Fw
variable [Gl]
variable {P : Program} {ρr : Option Nat} {n nb : Nat} {Q : LPo} {arr : Array Oper} {o : Oper} {os : List Oper} {κ : List Kt} {kn : Kn} {m : Fl} {h hf : Hp} {nx : Nat} {dl : List Nat} {fu : Nat} {L : List Nat} {K : KD}
end Go.Fw
namespace Go.Fw
variable [Gl]
variable {P : Program} {m : Fl} {h hf : Hp} {o : Oper}
end Go.Fw
end

section
namespace Go.Fw
variable [Gl]
variable {P : Program} {ρr : Option Nat} {n nb : Nat} {Q : LPo} {arr : Array Oper} {o : Oper} {os : List Oper} {κ : List Kt} {kn : Kn} {m : Fl} {h hf : Hp} {nx : Nat} {dl : List Nat} {dr : Dr}
theorem Safe.gsK (c : Bool) {i : Nat} {b : Bool} (hv : gdT arr m o = some (i, .bool b)) (hb : b = c) (h1 : Safe nb P ρr n Q (.ops arr dr (o :: os) κ ((i, some c) :: kn) m h nx hf dl)) :
    Safe nb P ρr n Q (.ops arr dr (o :: os) κ kn m h nx hf dl) := by
  subst hb
  cases dr with
  | no => exact fun hk => h1 (hk.know (gdT_lk hv))
  | at_ j ck => exact fun hd hk => h1 hd (hk.know (gdT_lk hv))
theorem Safe.brF {i : Nat} {b : Bool} {x y : Code} (hv : lk m i = some (.bool b)) (hb : b = false) (h1 : Safe nb P ρr n Q (.code y κ ((i, some false) :: kn) m h nx hf dl)) :
    Safe nb P ρr n Q (.code (.cond (.tmp i) x y) κ kn m h nx hf dl) := Safe.br hv (fun e => by rw [hb] at e; cases e) (fun _ => h1)
def isCmpA (m : Fl) (o : Oper) : Option (Bool × TypeId × List V × List V) := match o.op with
  | .binOp op T x y _ => match evX m x with
    | some (.agg a) => match evX m y with
      | some (.agg b) => match op with
        | .eql => some (true, T, a, b)
        | .neq => some (false, T, a, b)
        | _ => none
      | _ => none
    | _ => none
  | _ => none
theorem ev_cmpA {q c : Bool} {T : TypeId} {a b : List V} (he : evEq P 8 T (.agg a) (.agg b) = some c) (hq : eqFine P T (.agg a) = true) (hc : isCmpA m o = some (q, T, a, b)) (hd : (dry (.agg a) && dry (.agg b)) = true) : Ev P m h hf o (.bool (c == q)) := by
  intro ρ hn ht
  simp only [Bool.and_eq_true] at hd
  unfold isCmpA at hc
  split at hc
  · rename_i op T' x y U hop
    split at hc
    · rename_i a' ha
      split at hc
      · rename_i b' hb
        have e1 := dry_ren ρ hd.1
        have e2 := dry_ren ρ hd.2
        cases op <;> simp only [Option.some.injEq, Prod.mk.injEq, reduceCtorEq] at hc
        all_goals
          obtain ⟨rfl, rfl, rfl, rfl⟩ := hc
          simp only [renV, V.agg.injEq] at e1 e2
          simp only [evP, hop, evX_ren ha, evX_ren hb, renV, e1, e2, evBin, hq, if_true, he, Option.map_some]
          cases c <;> rfl
      · simp at hc
    · simp at hc
  · simp at hc
theorem Safe.cmpA {q c : Bool} {d : Nat} {T : TypeId} {a b : List V} (he : evEq P 8 T (.agg a) (.agg b) = some c) (hq : eqFine P T (.agg a) = true) (hc : isCmpA m o = some (q, T, a, b)) (hr : rdyO arr kn m n o = some d) (hd : (dry (.agg a) && dry (.agg b)) = true)
    (hs : Safe nb P ρr n Q (.ops arr dr.nx os κ ((d, none) :: kn) ((d, .bool (c == q)) :: m) h nx hf dl)) (hck : ckV h o (.bool (c == q)) dr = true := by rfl) : Safe nb P ρr n Q (.ops arr dr (o :: os) κ kn m h nx hf dl) :=
  Safe.val (ev_cmpA he hq hc hd) hr hs hck
end Go.Fw
end

section
namespace Go.Fw
variable [Gl]
variable {P : Program} {n : Nat} {m : Fl} {h : Hp} {nx nb : Nat}
end Go.Fw
end

section
namespace Go.Fw
variable [Gl]
variable {P : Program} {ρr : Option Nat} {n nb : Nat} {Q : LPo} {arr : Array Oper} {o : Oper} {os : List Oper} {κ : List Kt} {kn : Kn} {m : Fl} {h hf : Hp} {nx : Nat} {dl : List Nat}
theorem own_map {F : Froz} {w : World} {h1 h2 : Hp} (hns : h2.ns = h1.ns) (hmem : ∀ b o, (b, o) ∈ h2 → ∃ o1, (b, o1) ∈ h1 ∧ ∀ x, OR F o1 x → OR F o x) (ho : Own F h1 w) : Own F h2 w ∧ Trans F h1 w F h2 w := by
  refine ⟨⟨by rw [hns]; exact ho.nodup, fun b o hm => ?_, by rw [hns]; exact ho.off, ho.frz, ho.gl⟩, ?_⟩
  · obtain ⟨o1, h3, h4⟩ := hmem b o hm
    obtain ⟨x, hx, r⟩ := ho.own b _ h3
    exact ⟨x, hx, h4 x r⟩
  · have t1 := Trans.refl F h1 w
    exact ⟨t1.mono, t1.size, t1.keep, fun b hb => t1.names b (by rw [← hns]; exact hb), t1.fr, t1.os, t1.tape, t1.output, t1.drn⟩
end Go.Fw
end

section
namespace Go.Fw
variable [Gl]
variable {P : Program} {ρr : Option Nat} {n nb : Nat} {Q : LPo} {arr : Array Oper} {o : Oper} {os : List Oper} {κ : List Kt} {kn : Kn} {m : Fl} {h hf : Hp} {nx : Nat} {dl : List Nat}
end Go.Fw
end

section
namespace Go.Fw
variable [Gl]
variable {P : Program} {ρr : Option Nat} {n nb : Nat} {Q : LPo} {arr : Array Oper} {o : Oper} {os : List Oper} {κ : List Kt} {kn : Kn} {m : Fl} {h hf : Hp} {nx : Nat} {dl : List Nat} {dr : Dr}
def elemE (P : Program) (sT : TypeId) : Option (TypeId × Nat × Nat × List V) := match tslice P sT with
  | some e => match tsz P e with
    | some k => match tby P e with
      | some b => match tzero P e with
        | some z => match Nat.beq z.length k && Nat.blt 0 k && Nat.blt 0 b && Nat.ble b 1000000 with
          | true => some (e, k, b, z)
          | false => none
        | none => none
      | none => none
    | none => none
  | none => none
theorem elemE_ok {sT e : TypeId} {k b : Nat} {z : List V} (h : elemE P sT = some (e, k, b, z)) : ElemOk P sT e k b z := by
  unfold elemE at h
  split at h
  · rename_i h1
    split at h
    · rename_i h2
      split at h
      · rename_i h3
        split at h
        · rename_i h4
          split at h
          · rename_i h5
            simp only [Bool.and_eq_true] at h5
            simp only [Option.some.injEq, Prod.mk.injEq] at h
            obtain ⟨rfl, rfl, rfl, rfl⟩ := h
            exact ⟨h1, h2, h3, h4, Nat.eq_of_beq_eq_true h5.1.1.1, blt_lt h5.1.1.2, blt_lt h5.1.2⟩
          · simp at h
        · simp at h
      · simp at h
    · simp at h
  · simp at h
end Go.Fw
end
