/- A part of the proof: FwY -/
import Derived.Test.YtmohgegpcfkooaaGreatDoorFwV
set_option linter.all false
set_option linter.unusedSectionVars false
set_option linter.unusedVariables false
set_option linter.unusedSimpArgs false
namespace Go.Fw
open Go.Proofs Go.Sort Go.RowKit
variable [Gl]
variable {P : Program}
theorem Tri.rowStr {f : FuncId} {T : TypeId} {b cap nn : Nat} {ss ss' : List (List UInt8)} {rest : List V} {r : V} (X : Nat → Nat → Nat → Value) (hss : ss'.length = ss.length) (hr : ∀ F, VR F r (X b 0 cap)) (hcap : ss.length ≤ cap)
    (hsh : ∀ (blk off cap : Nat) (w : World), Holds encStr w blk off ss.toArray → blk < w.heap.size → ss.length < 4611686018427387904 → ss.length ≤ cap → Calls P f #[.slice (some ⟨blk, off, none⟩) ss.length cap] w fun e w' =>
      e = .returned (X blk off cap) ∧ ∃ n os, w' = grow (putRow encStr (Sort.ahead w n) blk off ss'.toArray) os)
    (hl : ss.length < 4611686018427387904) :
    Tri P f [.slice b 0 ss.length cap] [(b, .cells T (ss.map .str ++ rest) nn)] fun v h' => v = r ∧ h' = [(b, .cells T (ss'.map .str ++ rest) nn)] := by
  intro F w av ho ha
  obtain ⟨c, fz, hc, hlc, hnn, hz, hrc⟩ := own_cells ho (b := b) (T := T) (cs := ss.map .str ++ rest) (n := nn) (by simp [hget])
  have hb : b < w.heap.size := (Array.getElem?_eq_some_iff.1 hc).1
  have hav : av = #[.slice (some ⟨b, 0, none⟩) ss.length cap] := by
    have h0 := ha.2 0 _ rfl
    have hs := ha.1
    simp at hs
    apply Array.ext_getElem?
    intro i
    cases i with
    | zero => 
      rw [Array.getD_eq_getD_getElem?] at h0
      have : av[0]? = some av[0] := by simp [hs]
      rw [this] at h0 ⊢
      simp only [Option.getD_some] at h0
      rw [h0.slice_inv]; rfl
    | succ i => rw [Array.getElem?_eq_none (by omega)]; simp
  rw [hav]
  have hH : Holds encStr w b 0 ss.toArray := by
    intro j hj
    simp only [List.size_toArray] at hj
    have h1 := hrc j (.str ss[j]) (by rw [List.getElem?_append_left (by simpa using hj)]; simp [hj])
    have hjc : j < c.size := by simp at hlc; omega
    have h2 := h1.str_inv
    have h3 : c[j]? = some (c.getD j undef) := by rw [Array.getD_eq_getD_getElem?]; simp [hjc]
    refine ⟨?_, ?_⟩
    · simp only [World.cell?, hc, Nat.zero_add]
      rw [h3, h2]
      simp [encStr, hj]
    · simp only [World.frozen?, hc, Nat.zero_add]
      have := hz j (.inl hjc)
      simpa using this
  refine callsIn_of ((hsh b 0 cap w hH hb hl hcap).mono ?_)
  rintro e w' ⟨rfl, n, os, rfl⟩
  have key := own_putRow (enc := encStr) ho ss'.toArray n os (ss'.map .str) (by simp) (by simp [hss]) (fun i v hv => by
    rw [List.getElem?_map] at hv
    obtain ⟨u, hu, rfl⟩ := Option.map_eq_some_iff.1 hv
    have hi := (List.getElem?_eq_some_iff.1 hu)
    obtain ⟨hi, rfl⟩ := hi
    have : ss'.toArray[i]! = ss'[i] := by
      rw [getElem!_pos _ i (by simpa using hi)]; simp
    rw [this]
    exact .str _)
  have e1 : (ss.map V.str ++ rest).drop ss'.toArray.size = rest := by
    simp [hss]
  rw [e1] at key
  exact ⟨r, _, _, F, rfl, ⟨rfl, rfl⟩, key.1, hr F, key.2⟩
end Go.Fw
