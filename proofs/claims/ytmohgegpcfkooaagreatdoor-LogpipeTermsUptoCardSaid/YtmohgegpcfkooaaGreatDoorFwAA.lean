/- A part of the proof: FwAA -/
import Derived.Test.YtmohgegpcfkooaaGreatDoorFwAE
set_option linter.all false
set_option linter.unusedSectionVars false
set_option linter.unusedVariables false
set_option linter.unusedSimpArgs false
namespace Go.Fw
variable [Gl]
variable {P : Program} {ρ : Option Nat} {n : Nat} {ops : Array Oper} {os : List Oper} {t : Fr} {h : Hp}
def gsV : BS → Nat → V
  | none, _ => .nilslice
  | some p, len => .slice p.1 0 len p.2
def gsH (e : TypeId) (k : Nat) : BS → List V → Hp
  | none, _ => []
  | some p, cs => [(p.1, .cells e cs (p.2 * k))]
theorem OpS.appGs {o : Oper} {K : V → Hp → Prop} {sT e xT : TypeId} {a b : Operand} {by_ k len m : Nat} {z cs us : List V} {s : BS} {x : V} {hx : Hp} (hop : IsApp o sT xT a b) (he : ElemOk P sT e k by_ z) (hxT : appT P xT = true)
    (ha : evO t a = some (gsV s len)) (hb : evO t b = some x) (hh : h = hx ++ gsH e k s cs) (hq : ∀ q N, s = some (q, N) → q ∉ hx.ns) (hn : s = none → cs = [] ∧ len = 0) (hlen : cs.length = len * k)
    (hs : evSrc h k x = some (us, m)) (hlf : us.all leafV = true) (hu : m = 0 → us = []) (hbd : (2 * (len + m) + 192) * by_ ≤ 281474976710656)
    (hk : ∀ s' : BS, (∀ q N, s' = some (q, N) → q ∉ hx.ns ∧ len + m ≤ N) → (s' = none → cs ++ us = [] ∧ len + m = 0) → K (gsV s' (len + m)) (gsH e k s' (cs ++ us) ++ hx)) : OpS P ρ n o t h K := by
  subst hh
  cases s with
  | none =>
    obtain ⟨rfl, rfl⟩ := hn rfl
    refine OpS.append_nil hop he hxT ha hb hs (by simpa using hbd) (fun h0 => ?_) (fun h0 q N hq hN => ?_)
    · have h1 := hu h0
      subst h0 h1
      have := hk none (fun _ _ h => by simp at h) (fun _ => ⟨rfl, rfl⟩)
      simpa [gsH, gsV] using this
    · have := hk (some (q, N)) (fun q' N' h => by simp at h; obtain ⟨rfl, rfl⟩ := h; exact ⟨by simpa [gsH] using hq, by omega⟩) (fun h => by simp at h)
      simpa [gsH, gsV] using this
  | some p =>
    obtain ⟨q, N⟩ := p
    have hqx := hq q N rfl
    refine OpS.append_lin hop he hxT ha hb (cs := cs) (hget_app hqx) (by omega) hs hlf hbd fun q' N' hq' hN' => ?_
    have ed : hdel (hx ++ gsH e k (some (q, N)) cs) q = hx := by
      show hdel (hx ++ [(q, _)]) q = hx
      rw [hdel_app hqx, List.append_nil]
    rw [ed] at hq' ⊢
    have := hk (some (q', N')) (fun q2 N2 h => by simp at h; obtain ⟨rfl, rfl⟩ := h; exact ⟨hq', hN'⟩) (fun h => by simp at h)
    have et : cs.take (len * k) = cs := List.take_of_length_le (by omega)
    rw [et]
    exact this
theorem VEnt.gs {e : TypeId} {k : Nat} {s : BS} {cs rest : List V} {len : Nat} (hn : s = none → cs = [] ∧ len = 0) (hl : len = 0 → cs.length = 0) : VEnt (gsV s len) (gsH e k s (cs ++ rest)) (.fslice cs len) [] := by
  cases s with
  | none =>
    obtain ⟨rfl, rfl⟩ := hn rfl
    exact .weak VLe.nils (.refl _ _)
  | some p =>
    refine .freeze p.1 (by simp [gsH, hget]; exact ⟨rfl, rfl, rfl⟩) ?_
    have e1 : frzH p.1 (cs ++ rest) (hdel (gsH e k (some p) (cs ++ rest)) p.1) = [] := by simp [gsH, hdel, frzH]
    rw [e1]
    have e2 : frzV p.1 (cs ++ rest) (gsV (some p) len) = .fslice (cs ++ rest) len := by simp [gsV, frzV]
    rw [e2]
    have := VLe.cut (cs := cs ++ rest) (len := len) cs.length hl
    rw [List.take_left' rfl] at this
    exact .weak this (.refl _ _)
theorem Ent.gs {e : TypeId} {k : Nat} {s : BS} {cs rest : List V} {len : Nat} {r : List (Nat × V)} (i : Nat) (hi : t i = some (gsV s len)) (hn : s = none → cs = [] ∧ len = 0) (hl : len = 0 → cs.length = 0)
    (hr : ∀ b ws, Fr.le (frzF b ws t) (frL r)) (hr0 : Fr.le t (frL r)) : Ent t (gsH e k s (cs ++ rest)) (frL ((i, .fslice cs len) :: r)) [] := by
  cases s with
  | none =>
    obtain ⟨rfl, rfl⟩ := hn rfl
    exact Ent.weak (le_cons hi VLe.nils hr0)
  | some p =>
    have e0 := Ent.freeze (t := t) (h := gsH e k (some p) (cs ++ rest)) (b := p.1) (T := e) (cs := cs ++ rest) (nn := p.2 * k) (by simp [gsH, hget])
    have e1 : frzH p.1 (cs ++ rest) (hdel (gsH e k (some p) (cs ++ rest)) p.1) = [] := by simp [gsH, hdel, frzH]
    rw [e1] at e0
    refine e0.trans (Ent.weak (le_cons (u := .fslice (cs ++ rest) len) ?_ ?_ (hr _ _)))
    · show (t i).map (frzV p.1 (cs ++ rest)) = _
      rw [hi]
      simp [gsV, frzV]
    · have := VLe.cut (cs := cs ++ rest) (len := len) cs.length hl
      rwa [List.take_left' rfl] at this
end Go.Fw
