/- A part of the proof: LwK -/
import Derived.Test.YtijfihbdcdkalaaGreatDoorLwJ
set_option linter.all false
set_option linter.unusedSectionVars false
set_option linter.unusedVariables false
set_option linter.unusedSimpArgs false
namespace Go.Fw
variable [Gl]
variable {P : Program} {ρr : Option Nat} {n nb : Nat} {Q : LPo} {arr : Array Oper} {o : Oper} {os : List Oper} {κ : List Kt} {kn : Kn} {m : Fl} {h hf : Hp} {nx : Nat} {dl : List Nat} {dr : Dr}
theorem PK_mono {κa κb : List Kt} (hab : ∀ e m h nx hf dl, PK nb P ρr n Q κa e m h nx hf dl → PK nb P ρr n Q κb e m h nx hf dl) : ∀ (κ1 : List Kt) (e : Exit) (m : Fl) (h : Hp) (nx : Nat) (hf : Hp) (dl : List Nat),
    PK nb P ρr n Q (κ1 ++ κa) e m h nx hf dl → PK nb P ρr n Q (κ1 ++ κb) e m h nx hf dl
  | [], e, m, h, nx, hf, dl, hp => hab e m h nx hf dl hp
  | .sq y :: κ1, e, m, h, nx, hf, dl, hp => by
    cases e with
    | normal => exact WCL.mono (Q := PK nb P ρr n Q (κ1 ++ κa)) hp (fun e m h nx hf dl => PK_mono hab κ1 e m h nx hf dl)
    | _ => exact PK_mono hab κ1 _ _ _ _ _ _ hp
  | .bk id :: κ1, e, m, h, nx, hf, dl, hp => by
    cases e with
    | exit id' =>
      simp only [List.cons_append, PK, blkL] at hp ⊢
      split at hp
      · rename_i he; rw [if_pos he]; exact PK_mono hab κ1 _ _ _ _ _ _ hp
      · rename_i he; rw [if_neg he]; exact PK_mono hab κ1 _ _ _ _ _ _ hp
    | _ => exact PK_mono hab κ1 _ _ _ _ _ _ hp
  | .lp L :: κ1, e, m, h, nx, hf, dl, hp => by
    cases e with
    | normal => exact hp
    | _ => exact PK_mono hab κ1 _ _ _ _ _ _ hp
theorem WCL.rel (sg : Sg) {m2 : Fl} {h2 : Hp} {nx2 : Nat} {c : Code} (hr : Rel nb sg m h nx m2 h2 nx2) (hs : WCL nb P ρr n c m2 h2 nx2 hf dl Q) : WCL nb P ρr n c m h nx hf dl Q := fun ρ hg => by
  obtain ⟨a, g, en⟩ := hr.ent hg hf
  refine WC.ent en ((hs (cmp ρ sg) g).mono ?_)
  rintro e t' h' dl' ⟨ρ', m', h3, nx', hf', a2, g2, en2, q2⟩
  exact ⟨ρ', m', h3, nx', hf', a.trans a2, g2, en2, q2⟩
variable {α : Type} {y : Code}
theorem join_le (fr : α → Fl) (hp : α → Hp) (nx0 : Nat) (I : α → Prop) (hy : ∀ a, I a → Safe nb P ρr n Q (.code y κ [] (fr a) (hp a) nx0 hf dl)) :
    ∀ e m h nx hf' dl', PK nb P ρr n Q (.lp (Join nb fr hp nx0 hf dl I) :: κ) e m h nx hf' dl' → PK nb P ρr n Q (.sq y :: κ) e m h nx hf' dl' := fun e m h nx hf' dl' hq => by
  cases e with
  | normal =>
    obtain ⟨sg, b, hI, rfl, rfl, hr⟩ := hq
    exact WCL.rel sg hr (hy b hI knNil)
  | _ => exact hq
theorem DS.mono {fu : Nat} {L : List Nat} {K K' : KD} (hs : DS nb P ρr n arr fu L kn m h nx hf K) (hk : ∀ kn m h nx hf, K kn m h nx hf → K' kn m h nx hf) : DS nb P ρr n arr fu L kn m h nx hf K' := fun hkn ρ hg hn ht =>
  wA_mono (fun t' h' ⟨ρ', kn', m', h2, nx', hf', a, g, en, hk', q⟩ => ⟨ρ', kn', m', h2, nx', hf', a, g, en, hk', hk _ _ _ _ _ q⟩) _ _ _ _ (hs hkn ρ hg hn ht)
theorem Safe.cutO (κ1 : List Kt) (fr : α → Fl) (hp : α → Hp) (nx0 : Nat) (I : α → Prop) (hx : Safe nb P ρr n Q (.ops arr dr os (κ1 ++ .lp (Join nb fr hp nx0 hf dl I) :: κ) kn m h nx hf dl))
    (hy : ∀ a, I a → Safe nb P ρr n Q (.code y κ [] (fr a) (hp a) nx0 hf dl)) : Safe nb P ρr n Q (.ops arr dr os (κ1 ++ .sq y :: κ) kn m h nx hf dl) := by
  cases dr with
  | no => exact fun hk => (hx hk).mono fun m h nx hf => PK_mono (join_le fr hp nx0 I hy) κ1 _ _ _ _ _ _
  | at_ j ck => exact fun hd => DS.mono (hx hd) fun kn m h nx hf => PK_mono (join_le fr hp nx0 I hy) κ1 _ _ _ _ _ _
theorem Safe.cutC {c : Code} (κ1 : List Kt) (fr : α → Fl) (hp : α → Hp) (nx0 : Nat) (I : α → Prop) (hx : Safe nb P ρr n Q (.code c (κ1 ++ .lp (Join nb fr hp nx0 hf dl I) :: κ) kn m h nx hf dl))
    (hy : ∀ a, I a → Safe nb P ρr n Q (.code y κ [] (fr a) (hp a) nx0 hf dl)) : Safe nb P ρr n Q (.code c (κ1 ++ .sq y :: κ) kn m h nx hf dl) := fun hk =>
  (hx hk).mono fun e m h nx hf dl => PK_mono (join_le fr hp nx0 I hy) κ1 _ _ _ _ _ _
theorem Safe.cut1 {k0 : Kt} (fr : α → Fl) (hp : α → Hp) (nx0 : Nat) (I : α → Prop) (hx : Safe nb P ρr n Q (.ops arr dr os (k0 :: .lp (Join nb fr hp nx0 hf dl I) :: κ) kn m h nx hf dl))
    (hy : ∀ a, I a → Safe nb P ρr n Q (.code y κ [] (fr a) (hp a) nx0 hf dl)) : Safe nb P ρr n Q (.ops arr dr os (k0 :: .sq y :: κ) kn m h nx hf dl) := Safe.cutO [k0] fr hp nx0 I hx hy
theorem Safe.cut2 {k0 k1 : Kt} (fr : α → Fl) (hp : α → Hp) (nx0 : Nat) (I : α → Prop) (hx : Safe nb P ρr n Q (.ops arr dr os (k0 :: k1 :: .lp (Join nb fr hp nx0 hf dl I) :: κ) kn m h nx hf dl))
    (hy : ∀ a, I a → Safe nb P ρr n Q (.code y κ [] (fr a) (hp a) nx0 hf dl)) : Safe nb P ρr n Q (.ops arr dr os (k0 :: k1 :: .sq y :: κ) kn m h nx hf dl) := Safe.cutO [k0, k1] fr hp nx0 I hx hy
theorem Safe.cut0 (fr : α → Fl) (hp : α → Hp) (nx0 : Nat) (I : α → Prop) (hx : Safe nb P ρr n Q (.ops arr dr os (.lp (Join nb fr hp nx0 hf dl I) :: κ) kn m h nx hf dl))
    (hy : ∀ a, I a → Safe nb P ρr n Q (.code y κ [] (fr a) (hp a) nx0 hf dl)) : Safe nb P ρr n Q (.ops arr dr os (.sq y :: κ) kn m h nx hf dl) := Safe.cutO [] fr hp nx0 I hx hy
end Go.Fw
namespace Go.Fw
variable [Gl]
variable {P : Program} {ρr : Option Nat} {n nb : Nat} {Q : LPo} {arr : Array Oper} {o : Oper} {os : List Oper} {κ : List Kt} {kn : Kn} {m : Fl} {h hf : Hp} {nx : Nat} {dl : List Nat}
theorem Safe.frzO (k : Nat) {T : TypeId} {cs : List V} {nn : Nat} (hk : hget h k = some (.cells T cs nn)) (hd : cs.all dryV1 = true) (hs : Safe nb P ρr n Q (.ops arr .no os κ kn (frzM k cs m) (frzHp k cs (hdel h k)) nx hf dl)) : Safe nb P ρr n Q (.ops arr .no os κ kn m h nx hf dl) := fun hkn ρ hg => by
  obtain ⟨g, en⟩ := ent_frz (m := m) (hf := hf) hg hk hd
  exact RO.ent en (hs (hkn.frz k cs) ρ g)
theorem Safe.frzC (k : Nat) {c : Code} {T : TypeId} {cs : List V} {nn : Nat} (hk : hget h k = some (.cells T cs nn)) (hd : cs.all dryV1 = true) (hs : Safe nb P ρr n Q (.code c κ kn (frzM k cs m) (frzHp k cs (hdel h k)) nx hf dl)) : Safe nb P ρr n Q (.code c κ kn m h nx hf dl) := fun hkn ρ hg => by
  obtain ⟨g, en⟩ := ent_frz (m := m) (hf := hf) hg hk hd
  refine WC.ent en ((hs (hkn.frz k cs) ρ g).mono ?_)
  exact fun _ _ _ _ h => h
end Go.Fw
namespace Go.Fw
variable [Gl]
variable {P : Program} {m : Fl} {h hf : Hp} {o : Oper}
def isRem (m : Fl) (o : Oper) : Option (IntKind × Int × Int) := match o.op with
  | .binOp .rem T x y _ => match evX m x with
    | some (.int k a) => match evX m y with
      | some (.int k' b) => match decide (k = k') with
        | true => some (k, a, b)
        | false => none
      | _ => none
    | _ => none
  | _ => none
theorem ev_rem {k : IntKind} {a b : Int} (hb : b ≠ 0) (hc : isRem m o = some (k, a, b)) : Ev P m h hf o (.int k (a.tmod b)) := by
  intro ρ hn ht
  unfold isRem at hc
  split at hc
  · rename_i hop
    split at hc
    · rename_i ha
      split at hc
      · rename_i hb'
        split at hc
        · rename_i hk
          have hk := of_decide_eq_true hk
          simp only [Option.some.injEq, Prod.mk.injEq] at hc
          obtain ⟨rfl, rfl, rfl⟩ := hc
          subst hk
          simp only [evP, hop, evX_ren ha, evX_ren hb', renV, evBin, evInt]
          simp [hb]
        · simp at hc
      · simp at hc
    · simp at hc
  · simp at hc
end Go.Fw
