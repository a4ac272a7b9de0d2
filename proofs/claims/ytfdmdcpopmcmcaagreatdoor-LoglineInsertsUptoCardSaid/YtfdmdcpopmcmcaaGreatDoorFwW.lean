/- A part of the proof: FwW -/
import Derived.Test.YtfdmdcpopmcmcaaGreatDoorFwX
import Derived.Shelf.SlSortCmp.WholeK
set_option linter.all false
set_option linter.unusedSectionVars false
set_option linter.unusedVariables false
set_option linter.unusedSimpArgs false
section
namespace Go.Fw
variable [Gl]
open Go.Proofs Go.Sort Go.RowKit
variable {P : Program}

theorem flat_get {α : Type} [Inhabited α] {vs : α → List V} {k : Nat} (hk : ∀ x, (vs x).length = k) : ∀ (l : List α) (j : Nat), j < l.length * k → (l.flatMap vs)[j]? = (vs l[j / k]!)[j % k]?
  | [], j, h => by simp at h
  | x :: l, j, h => by
    have k0 : 0 < k := by rcases Nat.eq_zero_or_pos k with h0 | h0; · subst h0; simp at h
                          · exact h0
    simp only [List.flatMap_cons]
    by_cases hj : j < k
    · rw [List.getElem?_append_left (by rw [hk]; exact hj), Nat.div_eq_of_lt hj, Nat.mod_eq_of_lt hj]
      simp
    · rw [List.getElem?_append_right (by rw [hk]; omega), hk]
      have hlt : j - k < l.length * k := by simp [Nat.add_mul] at h; omega
      rw [flat_get hk l (j - k) hlt]
      have e1 : j / k = (j - k) / k + 1 := by
        have := Nat.add_div_right (j - k) k0
        rw [Nat.sub_add_cancel (by omega)] at this
        exact this
      have e2 : j % k = (j - k) % k := by
        have := Nat.add_mod_right (j - k) k
        rw [Nat.sub_add_cancel (by omega)] at this
        exact this
      rw [e1, e2]
      have e3 : (x :: l)[(j - k) / k + 1]! = l[(j - k) / k]! := by simp
      rw [e3]
theorem flat_length {α : Type} {vs : α → List V} {k : Nat} (hk : ∀ x, (vs x).length = k) (l : List α) : (l.flatMap vs).length = l.length * k := by
  induction l with
  | nil => simp
  | cons x l ih => simp [List.flatMap_cons, hk, ih, Nat.add_mul]; omega
theorem vrs_two {F : Froz} {a b : V} {x y : Value} (h1 : VR F a x) (h2 : VR F b y) : VRs F [a, b] #[x, y] := ⟨rfl, fun i v hv => by
  match i with
  | 0 => simp at hv; subst hv; simpa using h1
  | 1 => simp at hv; subst hv; simpa using h2
  | i + 2 => simp at hv⟩
/-- slices.SortFunc, of structs, with a pure comparison. -/
theorem Tri.sortFunc {α : Type} [Inhabited α] {f g : FuncId} {T : TypeId} {b cap nn k : Nat} (enc : α → List Value) (vs : α → List V) (hk : ∀ x, (enc x).length = k) (hk2 : ∀ x, (vs x).length = k)
    (hev : ∀ F x (i : Nat) v, (vs x)[i]? = some v → VR F v ((enc x)[i]!)) (hdet : ∀ F x (i : Nat) v y, (vs x)[i]? = some v → VR F v y → y = (enc x)[i]!) (cf : α → α → Int) (hcf : ∀ x y, PTri P g [.agg (vs x), .agg (vs y)] (.int .i64 (cf x y)))
    (hsh : ∀ (blk off cap : Nat) (d : Array α) (w : World), CmpLays P g #[] enc k cf blk off d.size w → HoldsK enc k w blk off d → blk < w.heap.size → d.size < 4611686018427387904 →
      Calls P f #[.slice (some ⟨blk, off, none⟩) d.size cap, .func (.func g) #[] #[]] w fun e w' => e = .returned (.tuple #[]) ∧ ∃ d' n os, PermIn 0 d.size d d' ∧ SortedIn (ltOf cf) 0 d.size d' ∧ w' = sortWorldK enc k w blk off n d' os)
    (l : List α) (rest : List V) (hl : l.length < 4611686018427387904) :
    Tri P f [.slice b 0 l.length cap, .clo g []] [(b, .cells T (l.flatMap vs ++ rest) nn)] fun v h' => v = .tup [] ∧ ∃ l' : List α, h' = [(b, .cells T (l'.flatMap vs ++ rest) nn)] ∧ l'.Perm l ∧ ∀ i j, i < j → j < l.length → ltOf cf l'[j]! l'[i]! = false := by
  intro F w av ho ha
  obtain ⟨c, fz, hc, hlc, hnn, hz, hrc⟩ := own_cells ho (b := b) (T := T) (cs := l.flatMap vs ++ rest) (n := nn) (by simp [hget])
  have hb : b < w.heap.size := (Array.getElem?_eq_some_iff.1 hc).1
  have hfl := flat_length hk2 l
  have hav : av = #[.slice (some ⟨b, 0, none⟩) l.length cap, .func (.func g) #[] #[]] := by
    have h0 := (ha.2 0 _ rfl).slice_inv
    obtain ⟨cv, h1, hcv⟩ := (ha.2 1 _ rfl).clo_inv
    have hcv0 : cv = #[] := Array.eq_empty_of_size_eq_zero hcv.1
    subst hcv0
    have hs := ha.1
    simp at hs
    obtain ⟨L⟩ := av
    match L, hs with
    | [x, y], _ => simp at h0 h1; rw [h0, h1]
  rw [hav]
  have put := fun (d' : Array α) (m : Nat) (os : Array Obj) (hd : d'.size = l.length) => own_putRow (enc := id) ho (flatK enc k d') m os (d'.toList.flatMap vs) (by rw [flat_length hk2, size_flatK]; simp) (by rw [size_flatK, hd]; simp [hfl]) (fun i v hv => by
    have hi : i < d'.toList.length * k := by
      have := (List.getElem?_eq_some_iff.1 hv).1
      rwa [flat_length hk2] at this
    have hi' : i < d'.size * k := by simpa using hi
    rw [flat_get hk2 _ _ hi] at hv
    have := hev F _ _ _ hv
    rw [get_flatK _ _ _ _ hi']
    have e : d'.toList[i / k]! = d'[i / k]! := by
      have hik : i / k < d'.size := Nat.div_lt_of_lt_mul (by rw [Nat.mul_comm]; exact hi')
      rw [getElem!_pos d' _ hik, getElem!_pos d'.toList _ (by simpa using hik)]; simp
    rw [← e]; exact this)
  have hH : HoldsK enc k w b 0 l.toArray := by
    intro j hj
    rw [size_flatK] at hj
    have hj' : j < l.length * k := by simpa using hj
    have hjc : j < c.size := by simp [hfl] at hlc; omega
    have h0 := flat_get hk2 l j hj'
    have hlt : j < (l.flatMap vs).length := by rw [hfl]; exact hj'
    have h1 : (l.flatMap vs)[j]? = some (l.flatMap vs)[j] := by simp [hlt]
    have h2 := hrc j _ (by rw [List.getElem?_append_left hlt]; exact h1)
    rw [h1] at h0
    have h3 := hdet F _ _ _ _ h0.symm h2
    have h4 : c[j]? = some (c.getD j undef) := by rw [Array.getD_eq_getD_getElem?]; simp [hjc]
    refine ⟨?_, ?_⟩
    · simp only [World.cell?, hc, Nat.zero_add]
      rw [h4, h3, get_flatK _ _ _ _ hj]
      have hik : j / k < l.length := Nat.div_lt_of_lt_mul (by rw [Nat.mul_comm]; exact hj')
      simp [hik]
    · simp only [World.frozen?, hc, Nat.zero_add]
      simpa using hz j (.inl hjc)
  have hcmp : CmpLays P g #[] enc k cf b 0 l.toArray.size w := by
    intro m os dk hdk x y
    have hdk' : dk.size = l.length := by simpa using hdk
    obtain ⟨o1, _⟩ := put dk m os hdk'
    have o2 : Own F [] (sortWorldK enc k w b 0 m dk os) := o1.sub (List.nil_sublist _)
    have hx : ∀ x, VR F (.agg (vs x)) (.agg (enc x).toArray) := fun x => .agg _ _ (by simp [hk, hk2]) fun i v hv => by
      have hi : i < (enc x).length := by rw [hk, ← hk2 x]; exact (List.getElem?_eq_some_iff.1 hv).1
      have := hev F x i v hv
      rw [getElem!_pos (enc x) i hi] at this
      simpa [hi] using this
    have hcall := hcf x y F (sortWorldK enc k w b 0 m dk os) #[.agg (enc x).toArray, .agg (enc y).toArray] o2 (vrs_two (hx x) (hx y))
    have hcall2 := (callsIn_wide (n := 0)).1 hcall
    simp only [Array.append_empty]
    refine hcall2.mono ?_
    rintro e w' ⟨v, z, h', F', rfl, ⟨rfl, rfl⟩, o', hvr, tr⟩
    refine ⟨by rw [hvr.int_inv], ?_⟩
    exact world_grow (fun i hi => tr.keep i hi (by simp)) tr.size tr.os tr.tape tr.output tr.drn
  refine callsIn_of ((hsh b 0 cap l.toArray w hcmp hH hb (by simpa using hl)).mono ?_)
  rintro e w' ⟨rfl, d', m, os, hp, hs, rfl⟩
  have hd : d'.size = l.length := by simpa using hp.1
  obtain ⟨o1, tr1⟩ := put d' m os hd
  have e1 : (l.flatMap vs ++ rest).drop (flatK enc k d').size = rest := by rw [size_flatK, hd, ← hfl]; simp
  rw [e1] at o1 tr1
  refine ⟨.tup [], .tuple #[], _, F, rfl, ⟨rfl, d'.toList, rfl, ?_, fun i j hij hj => ?_⟩, o1, .tup [] #[] rfl (fun i v h => by simp at h), tr1⟩
  · have := hp.2.2
    simp only [List.size_toArray] at this
    have ea : d'.extract 0 l.length = d' := by rw [← hd]; simp
    rw [ea] at this
    simpa using this
  · have := hs i j (Nat.zero_le _) hij (by simpa using hj)
    have hi' : i < d'.size := by omega
    have hj' : j < d'.size := by omega
    rw [getElem!_pos d' i hi', getElem!_pos d' j hj'] at this
    rw [getElem!_pos d'.toList i (by simpa using hi'), getElem!_pos d'.toList j (by simpa using hj')]
    simpa using this
end Go.Fw
end
