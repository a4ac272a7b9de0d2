/- A part of the proof: FwZ -/
import Derived.Test.YtfdmdcpopmcmcaaGreatDoorFwU
set_option linter.all false
set_option linter.unusedSectionVars false
set_option linter.unusedVariables false
set_option linter.unusedSimpArgs false
section
namespace Go.Fw
variable [Gl]
variable {P : Program} {ρ : Option Nat} {n : Nat} {ops : Array Oper} {os : List Oper} {t : Fr} {h : Hp} {K : Fr → Hp → Prop}
/-! ### A slice of bytes that grows: nil, or owned -/
abbrev BS := Option (Nat × Nat)
def bsV : BS → List UInt8 → V
  | none, _ => .nilslice
  | some p, acc => .slice p.1 0 acc.length p.2
def bsH (e : TypeId) : BS → List UInt8 → Hp
  | none, _ => []
  | some p, acc => [(p.1, .cells e (byteCells acc) (p.2 * 1))]
theorem hget_app {hx r : Hp} {q : Nat} {o : AObj} (hq : q ∉ hx.ns) : hget (hx ++ (q, o) :: r) q = some o := by
  induction hx with
  | nil => simp [hget]
  | cons p hx ih =>
    simp only [Hp.ns_cons, List.mem_cons, not_or] at hq
    simp only [List.cons_append, hget]
    rw [if_neg (fun e => hq.1 e.symm), ih hq.2]
theorem hdel_app {hx r : Hp} {q : Nat} {o : AObj} (hq : q ∉ hx.ns) : hdel (hx ++ (q, o) :: r) q = hx ++ r := by
  induction hx with
  | nil => simp [hdel]
  | cons p hx ih =>
    simp only [Hp.ns_cons, List.mem_cons, not_or] at hq
    simp only [List.cons_append, hdel]
    rw [if_neg (fun e => hq.1 e.symm), ih hq.2]
theorem byteCells_leaf (l : List UInt8) : (byteCells l).all leafV = true := by simp [byteCells, leafV]
theorem byteCells_app (a b : List UInt8) : byteCells a ++ byteCells b = byteCells (a ++ b) := by simp [byteCells]
theorem OpS.appBs {o : Oper} {K : V → Hp → Prop} {sT e xT : TypeId} {a b : Operand} {by_ : Nat} {z : List V} {s : BS} {acc bs : List UInt8} {x : V} {hx : Hp} (hop : IsApp o sT xT a b) (he : ElemOk P sT e 1 by_ z) (hxT : appT P xT = true)
    (ha : evO t a = some (bsV s acc)) (hb : evO t b = some x) (hh : h = hx ++ bsH e s acc) (hq : ∀ q N, s = some (q, N) → q ∉ hx.ns) (hn : s = none → acc = [])
    (hs : evSrc h 1 x = some (byteCells bs, bs.length)) (hbd : (2 * (acc.length + bs.length) + 192) * by_ ≤ 281474976710656)
    (hk : ∀ s' : BS, (∀ q N, s' = some (q, N) → q ∉ hx.ns ∧ (acc ++ bs).length ≤ N) → (s' = none → acc ++ bs = []) → K (bsV s' (acc ++ bs)) (bsH e s' (acc ++ bs) ++ hx)) : OpS P ρ n o t h K := by
  subst hh
  cases s with
  | none =>
    have := hn rfl
    subst this
    refine OpS.append_nil hop he hxT ha hb hs (by simpa using hbd) (fun h0 => ?_) (fun h0 q N hq hN => ?_)
    · have : bs = [] := List.length_eq_zero_iff.1 h0
      subst this
      have := hk none (fun _ _ h => by simp at h) (fun _ => rfl)
      simpa [bsH, bsV] using this
    · have := hk (some (q, N)) (fun q' N' h => by simp at h; obtain ⟨rfl, rfl⟩ := h; exact ⟨by simpa [bsH] using hq, by simpa using hN⟩) (fun h => by simp at h)
      simpa [bsH, bsV] using this
  | some p =>
    obtain ⟨q, N⟩ := p
    have hqx := hq q N rfl
    refine OpS.append_lin hop he hxT ha hb (cs := byteCells acc) (hget_app hqx) (by simp [byteCells]) hs (byteCells_leaf bs) hbd fun q' N' hq' hN' => ?_
    have ed : hdel (hx ++ bsH e (some (q, N)) acc) q = hx := by
      show hdel (hx ++ [(q, _)]) q = hx
      rw [hdel_app hqx, List.append_nil]
    rw [ed] at hq' ⊢
    have := hk (some (q', N')) (fun q2 N2 h => by simp at h; obtain ⟨rfl, rfl⟩ := h; exact ⟨hq', by simpa using hN'⟩) (fun h => by simp at h)
    have et : (byteCells acc).take (acc.length * 1) = byteCells acc := List.take_of_length_le (by simp [byteCells])
    rw [et, byteCells_app]
    simpa [bsH, bsV] using this
theorem gOfBs {d : Nat} {sT dT e ty : TypeId} {x : Operand} {s : BS} {acc : List UInt8} {hx : Hp} {pos : String} {after : Array Edge} {gd : Option (Nat × Bool)} (hs : tslice P sT = some e) (he : tint P e = some .u8) (hd : tisstr P dT = true)
    (ha : evO t x = some (bsV s acc)) (hh : h = hx ++ bsH e s acc) (hq : ∀ q N, s = some (q, N) → q ∉ hx.ns) (hn0 : s = none → acc = []) (hw : wOps P ρ n ops os (upd t d (.str acc)) h K) (hn : d < n := by decide) : wGo P ρ n ops ⟨some d, .convert sT dT x, ty, pos, after, gd⟩ os t h K := by
  subst hh
  cases s with
  | none =>
    have := hn0 rfl
    subst this
    exact gOfNil hs he hd ha hw hn
  | some p => exact gOfBytes hs he hd ha (hget_app (hq p.1 p.2 rfl)) rfl hw hn
theorem evLen_bs {s : BS} {acc : List UInt8} (hn0 : s = none → acc = []) : evLen h (bsV s acc) = some (acc.length : Int) := by
  cases s with
  | none => have := hn0 rfl; subst this; rfl
  | some p => rfl
theorem lenFits_bs {T e : TypeId} {s : BS} {acc : List UInt8} (hT : tslice P T = some e) : lenFits P T (bsV s acc) = true := by
  cases s <;> simp [bsV, lenFits, hT]
end Go.Fw
end
