/- A part of the proof: LwL -/
import Derived.Test.YtijfihbdcdkalaaGreatDoorLwK
set_option linter.all false
set_option linter.unusedSectionVars false
set_option linter.unusedVariables false
set_option linter.unusedSimpArgs false
namespace Go.Fw
variable [Gl]
variable {P : Program} {ρr : Option Nat} {n nb : Nat} {Q : LPo} {arr : Array Oper} {o : Oper} {os : List Oper} {κ : List Kt} {kn : Kn} {m : Fl} {h hf : Hp} {nx : Nat} {dl : List Nat} {fu : Nat} {L : List Nat} {K : KD}
theorem DS.valA {i d : Nat} {v : V} (hv : EvA P m o v) (ho : arr.toList[i]? = some o) (hr : rdyO arr kn m n o = some d) (hvl : vldB h v = true) (hfu : Nat.blt 0 fu = true) (hc : chk arr L i (descs arr i) anyO = true)
    (hs : DS nb P ρr n arr (fu - 1) (i :: L) ((d, none) :: kn) ((d, v) :: m) h nx hf K) : DS nb P ρr n arr fu L kn m h nx hf K := by
  obtain ⟨f, rfl⟩ : ∃ f, fu = f + 1 := ⟨fu - 1, by have := blt_lt hfu; omega⟩
  intro hk ρ hg hn ht
  obtain ⟨hgd, hd, hlt⟩ := rdyO_run hk hr
  rw [Array.getElem?_toList] at ho
  refine wA.first (S := fun _ => True) (v := renV ρ v) ho (fun oj t h K _ _ hw => hw.mono fun _ _ hk => ⟨hk, trivial⟩) _ L _ _ hc trivial (fun h' _ K' hk => wStep.yes (dstOk_of hd hlt) (gd_yes (i := i) (gdL_S hgd)) (WOp_of_evP (by rw [evP_rs]; exact hv ρ h' ht) hk)) ?_
  have e : updO (renT ρ m) o.dst (renV ρ v) = renT ρ ((d, v) :: m) := by rw [hd, renT_cons]; rfl
  rw [e]
  exact hs (hk.cons fun b hb => by simp at hb) ρ hg hn (ht.cons (hg.vld hvl))
theorem eva_ldF {T : TypeId} {cs : List V} {off : Nat} {v : V} (hv : ldAt P T cs off = some v) (hc : isLoad m o = some (T, cs, off)) (hd : dry v = true) : EvA P m o v := by
  intro ρ h ht
  unfold isLoad at hc
  split at hc
  · rename_i hop
    split at hc
    · rename_i ha
      simp only [Option.some.injEq, Prod.mk.injEq] at hc
      obtain ⟨rfl, rfl, rfl⟩ := hc
      rw [dry_ren ρ hd]
      simp only [evP, hop, evX_ren ha, renV, Option.bind_some, evLoad]
      exact hv
    · simp at hc
  · simp at hc
def isCvI (P : Program) (m : Fl) (o : Oper) : Option (IntKind × Int) := match o.op with
  | .convert s d x => match evX m x with
    | some (.int k n) => match tint P s with
      | some _ => match tint P d with
        | some k' => some (k', n)
        | none => none
      | none => none
    | _ => none
  | _ => none
theorem eva_cvI {k : IntKind} {z : Int} (hc : isCvI P m o = some (k, z)) : EvA P m o (.int k (k.wrap z)) := by
  intro ρ h ht
  unfold isCvI at hc
  split at hc
  · rename_i hop
    split at hc
    · rename_i ha
      split at hc
      · rename_i hs
        split at hc
        · rename_i hd
          simp only [Option.some.injEq, Prod.mk.injEq] at hc
          obtain ⟨rfl, rfl⟩ := hc
          simp only [evP, hop, evX_ren ha, renV, Option.bind_some, evConv, hs, hd]
        · simp at hc
      · simp at hc
    · simp at hc
  · simp at hc
theorem DS.eqv {d : Nat} {v v' : V} (hv : v = v') (hs : DS nb P ρr n arr fu L kn ((d, v') :: m) h nx hf K) : DS nb P ρr n arr fu L kn ((d, v) :: m) h nx hf K := by subst hv; exact hs
end Go.Fw
namespace Go.Fw
variable [Gl]
variable {P : Program} {m : Fl} {h hf : Hp} {o : Oper}
def evI (m : Fl) : Option Operand → Option (Option Int)
  | none => some none
  | some y => match evX m y with
    | some (.int _ i) => some (some i)
    | _ => none
def isSlS (P : Program) (m : Fl) (o : Oper) : Option (List UInt8 × Option Int × Option Int) := match o.op with
  | .slice T x lo hi none => match evX m x with
    | some (.str s) => match tisstr P T with
      | true => match evI m lo with
        | some l => match evI m hi with
          | some r => some (s, l, r)
          | none => none
        | none => none
      | false => none
    | _ => none
  | _ => none
theorem evI_B {ρ : Nat → Option Nat} {x : Option Operand} {r : Option Int} {k : Nat} (d : Nat) (hx : evI m x = some r) (hk : r.getD (d : Int) = (k : Int)) : ∃ q, evB (renT ρ m) x = some q ∧ q.getD d = k := by
  unfold evI at hx
  split at hx
  · simp only [Option.some.injEq] at hx; subst hx; exact ⟨none, rfl, by simp only [Option.getD_none] at hk ⊢; omega⟩
  · split at hx
    · rename_i i hy
      simp only [Option.some.injEq] at hx; subst hx
      simp only [Option.getD_some] at hk
      refine ⟨some k, ?_, rfl⟩
      simp only [evB, evX_ren hy, renV, hk]
      rw [if_pos (by omega)]; simp
    · simp at hx
theorem eva_slS {s : List UInt8} {lo hi : Option Int} (l r : Nat) (hl : lo.getD ((0 : Nat) : Int) = (l : Int)) (hr : hi.getD (s.length : Int) = (r : Int)) (h1 : l ≤ r) (h2 : r ≤ s.length) (hc : isSlS P m o = some (s, lo, hi)) : EvA P m o (.str ((s.drop l).take (r - l))) := by
  intro ρ h ht
  unfold isSlS at hc
  split at hc
  · rename_i hop
    split at hc
    · rename_i hx
      split at hc
      · rename_i hT
        split at hc
        · rename_i hlo
          split at hc
          · rename_i hhi
            simp only [Option.some.injEq, Prod.mk.injEq] at hc
            obtain ⟨rfl, rfl, rfl⟩ := hc
            obtain ⟨q1, e1, g1⟩ := evI_B (ρ := ρ) 0 hlo hl
            obtain ⟨q2, e2, g2⟩ := evI_B (ρ := ρ) _ hhi hr
            have e3 : evB (renT ρ m) none = some none := rfl
            simp only [evP, hop, evX_ren hx, renV, e1, e2, e3, evSlice, g1, g2]
            rw [if_pos ⟨hT, trivial, h1, h2⟩]
          · simp at hc
        · simp at hc
      · simp at hc
    · simp at hc
  · simp at hc
theorem Safe.slS {ρr : Option Nat} {n nb : Nat} {Q : LPo} {arr : Array Oper} {os : List Oper} {κ : List Kt} {kn : Kn} {nx : Nat} {dl : List Nat} {d : Nat} {dr : Dr} {s : List UInt8} {lo hi : Option Int} (l r : Nat) (h1 : l ≤ r) (h2 : r ≤ s.length) (hc : isSlS P m o = some (s, lo, hi)) (hl : lo.getD ((0 : Nat) : Int) = (l : Int)) (hr : hi.getD (s.length : Int) = (r : Int)) (hrd : rdyO arr kn m n o = some d)
    (hs : Safe nb P ρr n Q (.ops arr dr.nx os κ ((d, none) :: kn) ((d, .str ((s.drop l).take (r - l))) :: m) h nx hf dl)) (hck : ckA h (.str ((s.drop l).take (r - l))) dr = true := by rfl) : Safe nb P ρr n Q (.ops arr dr (o :: os) κ kn m h nx hf dl) := Safe.valA (eva_slS l r hl hr h1 h2 hc) hrd hs hck
end Go.Fw
