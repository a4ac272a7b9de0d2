/- A part of the proof: CxC -/
import Derived.Test.YtmohgegpcfkooaaGreatDoorCxB
set_option linter.all false
set_option linter.unusedSectionVars false
set_option linter.unusedVariables false
set_option linter.unusedSimpArgs false
namespace Go.Fw
variable [Gl] [Yl]
omit [Yl] in
def evBX (m : Fl) : Option Operand → Option (Option Nat)
  | none => some none
  | some x => match evX m x with
    | some (.int _ i) => if 0 ≤ i then some (some i.toNat) else none
    | _ => none
omit [Yl] in
def yBin (P : Program) (op : BinOp) (T : TypeId) (a b : V) : Option V := match a, b with
  | .str a, .str b => evStr op a b
  | a, b => match dry a && dry b with
    | true => evBin P op T a b
    | false => xBin P op T true a b
omit [Yl] in
def capK : V → Bool
  | .slice _ _ _ c => !Nat.beq c BIG
  | _ => true
omit [Yl] in
def xC (P : Program) (m : Fl) (h : Hp) (o : Oper) : Option V := match o.op with
  | .pick c a b => match evX m c with
    | some (.bool true) => evX m a
    | some (.bool false) => evX m b
    | _ => none
  | .indexAddr T x i => match evX m x with
    | some a => match evX m i with
      | some b => evIndexAddr P T a b
      | none => none
    | none => none
  | .index T x i => match evX m x with
    | some a => match evX m i with
      | some b => evIndexV P T a b
      | none => none
    | none => none
  | .slice T x lo hi mx => match evX m x with
    | some a => match evBX m lo with
      | some l => match evBX m hi with
        | some r => match evBX m mx with
          | some k => match capK a with
            | true => match evSlice P T a l r k with
              | some v => match capK v with
                | true => some v
                | false => none
              | none => none
            | false => none
          | none => none
        | none => none
      | none => none
    | none => none
  | .binOp op T x y _ => match evX m x with
    | some a => match evX m y with
      | some b => yBin P op T a b
      | none => none
    | none => none
  | .load T a => match evX m a with
    | some (.ptr b off) => match hget h b with
      | some (.cells _ cs _) => ldAt P T cs off
      | _ => none
    | some (.fptr cs off) => match ldAt P T cs off with
      | some v => match dry v with
        | true => some v
        | false => none
      | none => none
    | _ => none
  | .makeFunc (.func f) first caps => match first.toList.isEmpty with
    | true => match evXs m caps.toList with
      | some vs => match isY vs with
        | true => none
        | false => some (.clo f vs)
      | none => none
    | false => none
  | _ => xP P m h o
variable {P : Program} {m : Fl} {h hf : Hp} {o : Oper} {ρ : Nat → Option Nat} {ν : Nat → Nat}
theorem evBX_rT {x : Option Operand} {r : Option Nat} (hx : evBX m x = some r) : evB (rT ρ ν m) x = some r := by
  unfold evBX at hx
  unfold evB
  split at hx
  · exact hx
  · rename_i y
    split at hx
    · rename_i k i he
      simp only [evX_rT (ρ := ρ) (ν := ν) he, rV, fixV, renV]
      exact hx
    · simp at hx
theorem evBin_rV {op : BinOp} {T : TypeId} {a b v : V} (hd : (dry a && dry b) = true) (h : evBin P op T a b = some v) : evBin P op T (rV ρ ν a) (rV ρ ν b) = some (rV ρ ν v) := by
  simp only [Bool.and_eq_true] at hd
  have hf := evBin_flat h
  simp only [rV, dry_fix ν hd.1, dry_fix ν hd.2, dry_ren ρ hd.1, dry_ren ρ hd.2, flat_fix hf, flat_ren hf]
  exact h
theorem yBin_rV {op : BinOp} {T : TypeId} {a b v : V} (va : vld ρ (fixV ν a)) (h : yBin P op T a b = some v) : evBin P op T (rV ρ ν a) (rV ρ ν b) = some (rV ρ ν v) := by
  unfold yBin at h
  split at h
  · have hf := evStr_flat h
    simp only [rV, fixV, renV, flat_fix hf, flat_ren hf]
    exact h
  · split at h
    · rename_i hd; exact evBin_rV hd h
    · exact xBin_ren va (xBin_fix h)
theorem evIndexAddr_rV {T : TypeId} {a b v : V} (va : vld ρ (fixV ν a)) (h : evIndexAddr P T a b = some v) : evIndexAddr P T (rV ρ ν a) (rV ρ ν b) = some (rV ρ ν v) := by
  unfold evIndexAddr at h
  split at h
  · obtain ⟨c, hc⟩ := va
    split at h
    · rename_i hT
      split at h
      · rename_i hk
        split at h
        · rename_i hi
          simp only [Option.some.injEq] at h; subst h
          simp only [rV, fixV, renV, hc, evIndexAddr, hT, hk, if_pos hi]
        · simp at h
      · simp at h
    · simp at h
  · split at h
    · rename_i hT
      split at h
      · rename_i hk
        split at h
        · rename_i hi
          simp only [Option.some.injEq] at h; subst h
          simp only [rV, fixV, renV, evIndexAddr, hT, hk, if_pos hi]
        · simp at h
      · simp at h
    · simp at h
  · obtain ⟨c, hc⟩ := va
    split at h
    · rename_i hT
      split at h
      · rename_i hk
        split at h
        · rename_i hi
          simp only [Option.some.injEq] at h; subst h
          simp only [rV, fixV, renV, hc, evIndexAddr, hT, hk, if_pos hi]
        · simp at h
      · simp at h
    · simp at h
  · split at h
    · rename_i hT
      split at h
      · rename_i hk
        split at h
        · rename_i hi
          simp only [Option.some.injEq] at h; subst h
          simp only [rV, fixV, renV, evIndexAddr, hT, hk, if_pos hi]
        · simp at h
      · simp at h
    · simp at h
  · simp at h
theorem evPart_rV {T : TypeId} {cs : List V} {i : Nat} {v : V} (h : evPart P T cs i = some v) : evPart P T (renL ρ (fixL ν cs)) i = some (rV ρ ν v) := evPart_ren (evPart_fix h)
theorem evIndexV_rV {T : TypeId} {a b v : V} (h : evIndexV P T a b = some v) : evIndexV P T (rV ρ ν a) (rV ρ ν b) = some (rV ρ ν v) := by
  unfold evIndexV at h
  split at h
  · split at h
    · rename_i hc
      simp only [Option.map_eq_some_iff] at h
      obtain ⟨u, hu, rfl⟩ := h
      simp only [rV, fixV, renV, evIndexV, if_pos hc, hu, Option.map_some]
    · simp at h
  · split at h
    · rename_i hT
      split at h
      · rename_i hk
        split at h
        · rename_i hi
          simp only [rV, fixV, renV, evIndexV, hT, hk, if_pos hi]
          exact evPart_rV h
        · simp at h
      · simp at h
    · simp at h
  · simp at h
theorem evSlice_rV {T : TypeId} {a v : V} {lo hi mx : Option Nat} (va : vld ρ (fixV ν a)) (ha : capK a = true) (hv : capK v = true) (h : evSlice P T a lo hi mx = some v) : evSlice P T (rV ρ ν a) lo hi mx = some (rV ρ ν v) := by
  have hfa : ∀ b o l c, a = .slice b o l c → cf ν b c = c := fun b o l c e => by
    subst e; simp only [capK, Bool.not_eq_true'] at ha; simp only [cf, ha, cond_false]
  have hfv : ∀ b o l c, v = .slice b o l c → cf ν b c = c := fun b o l c e => by
    subst e; simp only [capK, Bool.not_eq_true'] at hv; simp only [cf, hv, cond_false]
  unfold evSlice at h
  split at h
  · split at h
    · rename_i hc
      simp only [Option.some.injEq] at h; subst h
      simp only [rV, fixV, renV, evSlice, if_pos hc]
    · simp at h
  · split at h
    · rename_i hT
      split at h
      · rename_i hk
        split at h
        · rename_i hc
          simp only [Option.some.injEq] at h; subst h
          simp only [rV, fixV, renV, evSlice, hT, hk, if_pos hc]
        · simp at h
      · simp at h
    · simp at h
  · obtain ⟨c, hcb⟩ := va
    split at h
    · rename_i hT
      split at h
      · rename_i hk
        split at h
        · rename_i hc
          simp only [Option.some.injEq] at h; subst h
          simp only [rV, fixV, renV, hcb, hfa _ _ _ _ rfl, hfv _ _ _ _ rfl, evSlice, hT, hk, if_pos hc]
        · simp at h
      · simp at h
    · simp at h
  · split at h
    · rename_i hT
      split at h
      · rename_i hk
        split at h
        · rename_i hc
          simp only [Option.some.injEq] at h; subst h
          simp only [rV, fixV, renV, evSlice, hT, hk, if_pos hc]
          split <;> rfl
        · simp at h
      · simp at h
    · simp at h
  · obtain ⟨c, hcb⟩ := va
    split at h
    · rename_i hT
      split at h
      · rename_i hk
        split at h
        · rename_i hc
          simp only [Option.some.injEq] at h; subst h
          simp only [rV, fixV, renV, hcb, hfv _ _ _ _ rfl, evSlice, hT, hk, if_pos hc]
        · simp at h
      · simp at h
    · simp at h
  · simp at h
theorem evX_vldF (ht : vldT ρ (fixM ν m)) {x : Operand} {v : V} (h : evX m x = some v) : vld ρ (fixV ν v) := evX_vld ht (evX_fix h)
theorem xC_rT {v : V} (ht : vldT ρ (fixM ν m)) (hn : (rH ρ ν h ++ hf).ns.Nodup) (hv : xC P m h o = some v) : evP P (rT ρ ν m) (rH ρ ν h ++ hf) o = some (rV ρ ν v) := by
  unfold xC at hv
  split at hv <;> rename_i hop
  · split at hv
    · rename_i hc
      simp only [evP, hop, evX_rT hc, rV, fixV, renV, if_true]; exact evX_rT hv
    · rename_i hc
      simp only [evP, hop, evX_rT hc, rV, fixV, renV]; rw [if_neg (by simp)]; exact evX_rT hv
    · simp at hv
  · split at hv
    · rename_i ha
      split at hv
      · rename_i hb
        simp only [evP, hop, evX_rT ha, evX_rT hb]; exact evIndexAddr_rV (evX_vldF ht ha) hv
      · simp at hv
    · simp at hv
  · split at hv
    · rename_i ha
      split at hv
      · rename_i hb
        simp only [evP, hop, evX_rT ha, evX_rT hb]; exact evIndexV_rV hv
      · simp at hv
    · simp at hv
  · split at hv
    · rename_i ha
      split at hv
      · rename_i hl
        split at hv
        · rename_i hr
          split at hv
          · rename_i hk
            split at hv
            · rename_i hca
              split at hv
              · rename_i hs
                split at hv
                · rename_i hcv
                  simp only [Option.some.injEq] at hv; subst hv
                  simp only [evP, hop, evX_rT ha, evBX_rT hl, evBX_rT hr, evBX_rT hk]
                  exact evSlice_rV (evX_vldF ht ha) hca hcv hs
                · simp at hv
              · simp at hv
            · simp at hv
          · simp at hv
        · simp at hv
      · simp at hv
    · simp at hv
  · split at hv
    · rename_i ha
      split at hv
      · rename_i hb
        simp only [evP, hop, evX_rT ha, evX_rT hb]; exact yBin_rV (evX_vldF ht ha) hv
      · simp at hv
    · simp at hv
  · split at hv
    · rename_i ha
      split at hv
      · rename_i hg
        refine xP_ren ht (xP_fix (v := v) (fun f first caps e => by rw [hop] at e; cases e) ?_) hn
        simp only [xP, hop, ha, hg]; exact hv
      · simp at hv
    · rename_i ha
      split at hv
      · rename_i u hl
        split at hv
        · rename_i hd
          simp only [Option.some.injEq] at hv; subst hv
          have e2 : rV ρ ν u = u := by rw [rV, dry_fix ν hd, dry_ren ρ hd]
          rw [e2]
          simp only [evP, hop, evX_rT ha, rV, fixV, renV, Option.bind_some, evLoad]
          exact hl
        · simp at hv
      · simp at hv
    · simp at hv
  · split at hv
    · rename_i hf
      split at hv
      · rename_i hvs
        split at hv
        · simp at hv
        · rename_i hy
          simp only [Option.some.injEq] at hv; subst hv
          refine xP_ren ht (xP_fix (fun f first caps e vs hvs' => ?_) ?_) hn
          · rw [hop] at e
            cases e
            rw [hvs] at hvs'
            simp only [Option.some.injEq] at hvs'
            subst hvs'; exact hy
          · simp only [xP, hop, hf, if_true, hvs, Option.map_some]
      · simp at hv
    · simp at hv
  · exact xP_ren ht (xP_fix (fun f first caps e => absurd e (hop f first caps)) hv) hn
theorem xC_any {v : V} (ht : vldT ρ (fixM ν m)) (hn : (rH ρ ν h ++ hf).ns.Nodup) (hv : xC P m h o = some v) (hl : isLd o = false) (h' : Hp) : evP P (rT ρ ν m) h' o = some (rV ρ ν v) := by
  cases hc : isConv o with
  | false => exact evP_any (xC_rT ht hn hv) hc hl
  | true =>
    have hop : ∃ sT dT x, o.op = .convert sT dT x := by
      unfold isConv at hc
      split at hc
      · exact ⟨_, _, _, by assumption⟩
      · simp at hc
    obtain ⟨sT, dT, x, hop⟩ := hop
    have hv' : xP P m h o = some v := by unfold xC at hv; simp only [hop] at hv; exact hv
    exact evP_cvx ht hop (xP_fix (fun f first caps e => by rw [hop] at e; cases e) hv') h'
end Go.Fw
