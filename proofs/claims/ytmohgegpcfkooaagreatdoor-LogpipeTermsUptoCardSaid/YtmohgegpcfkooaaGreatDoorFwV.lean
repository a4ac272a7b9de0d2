/- A part of the proof: FwV, FwX -/
import Derived.Test.YtmohgegpcfkooaaGreatDoorCxI
import Derived.Shelf.Sort.Plain
set_option linter.all false
set_option linter.unusedSectionVars false
set_option linter.unusedVariables false
set_option linter.unusedSimpArgs false
section
namespace Go.Fw
variable [Gl]
open Go.Proofs Go.Sort Go.RowKit
variable {P : Program}
theorem own_putRow {α : Type} [Inhabited α] {F : Froz} {w : World} {b nn : Nat} {T : TypeId} {cs : List V} {enc : α → Value} (ho : Own F [(b, .cells T cs nn)] w) (d' : Array α) (m : Nat) (os : Array Obj) (vs : List V) (hv : vs.length = d'.size) (hle : d'.size ≤ cs.length)
    (hr : ∀ (i : Nat) v, vs[i]? = some v → VR F v (enc d'[i]!)) :
    Own F [(b, .cells T (vs ++ cs.drop d'.size) nn)] (grow (putRow enc (Sort.ahead w m) b 0 d') os) ∧ Trans F [(b, .cells T cs nn)] w F [(b, .cells T (vs ++ cs.drop d'.size) nn)] (grow (putRow enc (Sort.ahead w m) b 0 d') os) := by
  obtain ⟨c, fz, hc, hl, hnn, hz, hrc⟩ := own_cells ho (b := b) (T := T) (cs := cs) (n := nn) (by simp [hget])
  have hb : b < w.heap.size := (Array.getElem?_eq_some_iff.1 hc).1
  have hsz : (putRow enc (Sort.ahead w m) b 0 d').heap.size = w.heap.size := by simp [putRow, mapBlock, Sort.ahead]
  have hkeep : ∀ i, i < w.heap.size → i ≠ b → (grow (putRow enc (Sort.ahead w m) b 0 d') os).heap[i]? = w.heap[i]? := fun i hi hne => by
    show ((putRow enc (Sort.ahead w m) b 0 d').heap ++ os)[i]? = _
    rw [Array.getElem?_append_left (by omega)]
    simp [putRow, mapBlock, Sort.ahead, Array.getElem?_modify, Ne.symm hne]
  have hblk : (grow (putRow enc (Sort.ahead w m) b 0 d') os).heap[b]? = some (.cells (putCells enc 0 d' c) T fz) := by
    show ((putRow enc (Sort.ahead w m) b 0 d').heap ++ os)[b]? = _
    rw [Array.getElem?_append_left (by omega)]
    simp [putRow, mapBlock, Sort.ahead, Array.getElem?_modify, hc, onCells]
  have hs2 : (putCells enc 0 d' c).size = c.size := by simp [putCells]
  refine ⟨⟨by simp, ?_, ?_, ?_, ho.gl⟩, ⟨FLe.refl F, ?_, ?_, fun i hi => .inl hi, fun i hi => absurd rfl hi, rfl, rfl, rfl, ?_⟩⟩
  · intro b1 o1 hm
    simp only [List.mem_singleton, Prod.mk.injEq] at hm
    obtain ⟨rfl, rfl⟩ := hm
    refine ⟨_, hblk, ?_⟩
    rw [hnn, ← hs2]
    refine .cells T _ _ fz (by simp [hs2]; omega) (by rw [hs2]; exact hz) fun i v hiv => ?_
    have hi : i < c.size := by
      have := (List.getElem?_eq_some_iff.1 hiv).1
      simp at this; omega
    have hg : (putCells enc 0 d' c).getD i undef = if i < d'.size then enc d'[i]! else c.getD i undef := by
      rw [Array.getD_eq_getD_getElem?]
      simp [putCells, hi]
    rw [hg]
    by_cases hid : i < d'.size
    · rw [if_pos hid]
      rw [List.getElem?_append_left (by omega)] at hiv
      exact hr i v hiv
    · rw [if_neg hid]
      rw [List.getElem?_append_right (by omega), List.getElem?_drop] at hiv
      have : d'.size + (i - vs.length) = i := by omega
      rw [this] at hiv
      exact hrc i v hiv
  · intro b1 hm
    exact ho.off b1 (by simpa using hm)
  · intro i o hi
    have hne : i ≠ b := fun e => by have := ho.off b (by simp); rw [← e, hi] at this; cases this
    have := ho.frz i o hi
    rw [hkeep i (Array.getElem?_eq_some_iff.1 this).1 hne]; exact this
  · show w.heap.size ≤ ((putRow enc (Sort.ahead w m) b 0 d').heap ++ os).size
    simp [hsz]
  · intro i hi hn
    exact hkeep i hi (by simpa using hn)
  · show w.drawn ≤ w.drawn + m
    omega
theorem callsIn_of {f : FuncId} {args : Array Value} {w : World} {R : Ending → World → Prop} (h : Calls P f args w R) : CallsIn (FW none) 0 P f args w R := callsIn_wide.2 h
end Go.Fw
end

section
namespace Go.Fw
open Go.Proofs
variable [Gl]
variable {P : Program}
theorem PTri.of_calls {f : FuncId} {us : List V} {r : V} (C : World → Prop) (A : Array Value) (x : Value) (hargs : ∀ F av, VRs F us av → av = A) (hC : ∀ F w, Own F [] w → C w)
    (h : ∀ w, C w → Calls P f A w fun e w' => e = .returned x ∧ ∃ n, w' = w.drewN n) (hr : ∀ F, VR F r x) : PTri P f us r := by
  intro F w av ho ha
  rw [hargs F av ha]
  refine callsIn_of ((h w (hC F w ho)).mono ?_)
  rintro e w' ⟨rfl, n, rfl⟩
  exact ⟨r, x, [], F, rfl, ⟨rfl, rfl⟩, ho.drawn (w.drawn + n), hr F, Trans.drawn F [] w (w.drawn + n)⟩
theorem PTri.of_same {f : FuncId} {us : List V} {r : V} (A : Array Value) (x : Value) (hargs : ∀ F av, VRs F us av → av = A)
    (h : ∀ w, Calls P f A w fun e w' => e = .returned x ∧ w' = w) (hr : ∀ F, VR F r x) : PTri P f us r :=
  PTri.of_calls (fun _ => True) A x hargs (fun _ _ _ => trivial) (fun w _ => (h w).mono fun e w' ⟨h1, h2⟩ => ⟨h1, 0, h2⟩) hr
end Go.Fw
end
