/- A part of the proof: FwAB -/
import Derived.Test.YtfdmdcpopmcmcaaGreatDoorFwAA
import Derived.Scope
import Derived.Laws.RangeString
import Derived.Laws.Runes
set_option linter.all false
set_option linter.unusedSectionVars false
set_option linter.unusedVariables false
set_option linter.unusedSimpArgs false
section
namespace Go.Fw
variable [Gl]
variable {P : Program} {ρ : Option Nat} {n : Nat} {ops : Array Oper} {os : List Oper} {t : Fr} {h : Hp} {o : Oper}
/-! ### Range over a string; a rune's text; a scope without jumps -/
theorem OpS.rangeStr {K : V → Hp → Prop} {T : TypeId} {x : Operand} {s : List UInt8} (hop : o.op = .range T x) (hT : tisstr P T = true) (hx : evO t x = some (.str s))
    (hk : ∀ b, b ∉ h.ns → K (.ptr b 0) ((b, .striter s 0) :: h)) : OpS P ρ n o t h K := by
  refine OpS.of_value (by simp [hop]) fun F w tm D ho hf => ?_
  have ex := (evO_r (ds := D) hf hx).str_inv
  have ho1 := ho.push (o := .striter s 0) (x := .stringIter ⟨s.toArray⟩ 0) (.striter s 0)
  refine ⟨.ptr w.heap.size 0, .pointer (some ⟨w.heap.size, 0, none⟩), _, F, w.alloc (.stringIter ⟨s.toArray⟩ 0), ?_, hk _ ho.fresh, ho1, .ptr _ _, Trans.push F h w _ _⟩
  simp only [execOp, hop, ex, Sem.run_bind]
  rw [run_range_string w T _ (tisstr_und hT)]
  rfl
theorem OpS.nextStr {K : V → Hp → Prop} {x : Operand} {b pos : Nat} {s : List UInt8} (hop : o.op = .next x true) (hx : evO t x = some (.ptr b 0)) (hg : hget h b = some (.striter s pos))
    (h1 : pos < s.length → K (.tup [.bool true, .int .i64 pos, .int .i32 (Utf8.decode ⟨s.toArray⟩ pos).1]) (hset h b (.striter s (pos + (Utf8.decode ⟨s.toArray⟩ pos).2))))
    (h2 : ¬ pos < s.length → K (.tup [.bool false]) h) : OpS P ρ n o t h K := by
  refine OpS.of_value (by simp [hop]) fun F w tm D ho hf => ?_
  have ex := (evO_r (ds := D) hf hx).ptr_inv
  obtain ⟨y, hy, hr⟩ := ho.get hg
  cases hr with
  | striter _ _ =>
    have hb := hget_ns hg
    by_cases hp : pos < s.length
    · have hp' : pos < (⟨s.toArray⟩ : ByteArray).size := by simpa [ByteArray.size] using hp
      refine ⟨_, .tuple #[.bool true, .int .i64 pos, .int .i32 (Utf8.decode ⟨s.toArray⟩ pos).1], _, F, w.putObj b (.stringIter ⟨s.toArray⟩ (pos + (Utf8.decode ⟨s.toArray⟩ pos).2)), ?_, h1 hp, ho.put hb (.striter _ _), ?_, Trans.put _ _ hb⟩
      · simp only [execOp, hop, ex, Sem.run_bind, Instr.next, getObj, setObj, Sem.run, hy, Result.andThen, hp', if_true, goInt, Sem.run_pure]
        rfl
      · refine .tup _ _ rfl fun i v hv => ?_
        match i with
        | 0 => simp at hv; subst hv; exact .bool _
        | 1 => simp at hv; subst hv; exact .int _ _
        | 2 => simp at hv; subst hv; exact .int _ _
        | i + 3 => simp at hv
    · have hp' : ¬ pos < (⟨s.toArray⟩ : ByteArray).size := by simpa [ByteArray.size] using hp
      refine ⟨_, .tuple #[.bool false], _, F, w, ?_, h2 hp, ho, ?_, Trans.refl _ _ _⟩
      · simp only [execOp, hop, ex, Sem.run_bind, Instr.next, getObj, setObj, Sem.run, hy, Result.andThen, hp', if_false, Sem.run_pure]
      · refine .tup _ _ rfl fun i v hv => ?_
        match i with
        | 0 => simp at hv; subst hv; exact .bool _
        | i + 1 => simp at hv
def nogo (Q : Po) : Po
  | .goto _, _, _, _ => False
  | e, t, h, dl => Q e t h dl
theorem WC.scope {c : Code} {dl : List Nat} {Q : Po} (hw : WC P none n c t h dl (nogo Q)) : WC P none n (.scope c) t h dl Q := by
  intro F w tm ho hf
  refine wpIn_wide.2 (wp_scope_straight (wpIn_wide.1 (wpIn_mono (hw F w tm ho hf) fun e a w1 hp => ?_)))
  obtain ⟨t', h', dl', F', q, r⟩ := hp
  cases e with
  | goto l => exact q.elim
  | normal => exact ⟨t', h', dl', F', q, r⟩
  | exit id => exact ⟨t', h', dl', F', q, r⟩
  | ret => exact ⟨t', h', dl', F', q, r⟩
  | panic ch => exact ⟨t', h', dl', F', q, r⟩
  | outgrown => exact ⟨t', h', dl', F', q, r⟩
end Go.Fw
end
