/- A part of the proof: FwU -/
import Derived.Test.YtfdmdcpopmcmcaaGreatDoorFwT
set_option linter.all false
set_option linter.unusedSectionVars false
set_option linter.unusedVariables false
set_option linter.unusedSimpArgs false
section
namespace Go.Fw
variable [Gl]
variable {P : Program} {ρ : Option Nat} {n : Nat} {ops : Array Oper} {os : List Oper} {t : Fr} {h : Hp} {K : Fr → Hp → Prop}

theorem gToBytes {d : Nat} {sT dT e ty : TypeId} {x : Operand} {s : List UInt8} {pos : String} {after : Array Edge} {gd : Option (Nat × Bool)} (hs : tisstr P sT = true) (hd' : tisstr P dT = false) (hd : tslice P dT = some e) (he : tint P e = some .u8) (ha : evO t x = some (.str s))
    (hw : ∀ q N, q ∉ h.ns → s.length ≤ N → wOps P ρ n ops os (upd t d (.slice q 0 s.length N)) ((q, .cells e (byteCells s) N) :: h) K) (hn : d < n := by decide) (h5 : e = 5 := by rfl) : wGo P ρ n ops ⟨some d, .convert sT dT x, ty, pos, after, gd⟩ os t h K := by
  refine gOp (d := d) (OpS.toBytes rfl hs hd he ha hw h5) ?_ rfl hn
  funext K
  simp only [WOp, ha, hd', Bool.false_eq_true, if_false]
theorem bytesOf_cells : ∀ l : List UInt8, bytesOf (byteCells l) = some l
  | [] => rfl
  | c :: l => by
    have := bytesOf_cells l
    simp only [byteCells] at this
    simp only [byteCells, List.map_cons, bytesOf, this, Option.map_some]
    simp
theorem byteCells_length (l : List UInt8) : (byteCells l).length = l.length := by simp [byteCells]
theorem gOfBytes {d : Nat} {sT dT e T' ty : TypeId} {x : Operand} {l : List UInt8} {b len cap nn : Nat} {pos : String} {after : Array Edge} {gd : Option (Nat × Bool)} (hs : tslice P sT = some e) (he : tint P e = some .u8) (hd : tisstr P dT = true)
    (ha : evO t x = some (.slice b 0 len cap)) (hg : hget h b = some (.cells T' (byteCells l) nn)) (hl : len = l.length) (hw : wOps P ρ n ops os (upd t d (.str l)) h K) (hn : d < n := by decide) : wGo P ρ n ops ⟨some d, .convert sT dT x, ty, pos, after, gd⟩ os t h K := by
  refine gConv ha (fun l => by simp) ?_ hw hn
  simp only [evConv, hs, he, hd, hg, true_and, if_true]
  have e1 : List.take len (List.drop 0 (byteCells l)) = byteCells l := by rw [List.drop_zero, List.take_of_length_le (by rw [byteCells_length]; omega)]
  rw [if_pos (by rw [byteCells_length]; omega), e1, bytesOf_cells]
  rfl
/-- Of a slice that is known to hold nothing. -/
theorem gOfNil {d : Nat} {sT dT e ty : TypeId} {x : Operand} {pos : String} {after : Array Edge} {gd : Option (Nat × Bool)} (hs : tslice P sT = some e) (he : tint P e = some .u8) (hd : tisstr P dT = true)
    (ha : evO t x = some .nilslice) (hw : wOps P ρ n ops os (upd t d (.str [])) h K) (hn : d < n := by decide) : wGo P ρ n ops ⟨some d, .convert sT dT x, ty, pos, after, gd⟩ os t h K := by
  refine gConv ha (fun l => by simp) ?_ hw hn
  simp [evConv, hs, he, hd]
theorem cells_at {l : List UInt8} {i : Nat} (h : i < l.length) : (byteCells l)[0 + ((i : Nat) : Int).toNat * 1]? = some (.int .u8 l[i].toNat) := by simp [byteCells, h]
theorem mapUp_same {f : UInt8 → UInt8} {s : List UInt8} {i : Nat} (h : i < s.length) (hf : f s[i] = s[i]) : (s.take i).map f ++ s.drop i = (s.take (i + 1)).map f ++ s.drop (i + 1) := by
  rw [List.take_succ_eq_append_getElem h, List.map_append, List.map_cons, hf, List.drop_eq_getElem_cons h]
  simp
theorem mapUp_get {f : UInt8 → UInt8} {s : List UInt8} {i : Nat} (h : i < s.length) : (byteCells ((s.take i).map f ++ s.drop i))[0 + ((i : Nat) : Int).toNat * 1]? = some (.int .u8 s[i].toNat) := by
  have hl : i < ((s.take i).map f ++ s.drop i).length := by simp; omega
  rw [cells_at hl]
  congr 3
  rw [List.getElem_append_right (by simp; omega)]
  simp [Nat.min_eq_left (Nat.le_of_lt h)]
theorem mapUp_set {f : UInt8 → UInt8} {s : List UInt8} {i : Nat} (h : i < s.length) : (byteCells ((s.take i).map f ++ s.drop i)).set (0 + ((i : Nat) : Int).toNat * 1) (.int .u8 (f s[i]).toNat) = byteCells ((s.take (i + 1)).map f ++ s.drop (i + 1)) := by
  have hl : ((s.take i).map f).length = i := by simp [Nat.min_eq_left (Nat.le_of_lt h)]
  rw [List.take_succ_eq_append_getElem h, List.drop_eq_getElem_cons h]
  simp only [byteCells, List.map_append, List.map_cons, Int.toNat_natCast, Nat.mul_one, Nat.zero_add]
  rw [List.set_append_right _ _ (by simp [Nat.min_eq_left (Nat.le_of_lt h)])]
  simp [Nat.min_eq_left (Nat.le_of_lt h)]
end Go.Fw
end
