/- A part of the proof: FwO -/
import Derived.Test.YtfdmdcpopmcmcaaGreatDoorFwN
set_option linter.all false
set_option linter.unusedSectionVars false
set_option linter.unusedVariables false
set_option linter.unusedSimpArgs false
section
namespace Go.Fw
variable [Gl]
variable {P : Program} {ρ : Option Nat} {n : Nat} {ops : Array Oper} {o : Oper} {os : List Oper} {t : Fr} {h : Hp} {K : Fr → Hp → Prop}
/-- The operation runs. -/
def wGo (P : Program) (ρ : Option Nat) (n : Nat) (ops : Array Oper) (o : Oper) (os : List Oper) (t : Fr) (h : Hp) (K : Fr → Hp → Prop) : Prop :=
  dstOk n o ∧ WOp P ρ n o t h fun v h' => wOps P ρ n ops os (updO t o.dst v) h' K
theorem wU (hw : wGo P ρ n ops o os t h K) (hg : o.guard = none := by rfl) : wOps P ρ n ops (o :: os) t h K := by
  refine ⟨hw.1, ?_⟩
  rw [hg]
  exact hw.2
theorem wG {d j e : Nat} {want b : Bool} (hg : o.guard = some (j, want)) (hj : (ops[j]?).bind (·.dst) = some e) (hb : t e = some (.bool b)) (hd : o.dst = some d) (hn : d < n)
    (h1 : b = want → wGo P ρ n ops o os (upd t e (.bool want)) h K) (h2 : b = !want → wOps P ρ n ops os (upd (upd t e (.bool !want)) d (.tup [])) h K) : wOps P ρ n ops (o :: os) t h K := by
  refine ⟨by unfold dstOk; rw [hd]; exact hn, ?_⟩
  rw [hg]
  simp only [hj, hb]
  refine ⟨fun hbw => (h1 hbw).2, fun hbw => ?_⟩
  rw [hd]
  exact h2 hbw
theorem wY {j e : Nat} {want : Bool} (hb : t e = some (.bool want)) (hw : wGo P ρ n ops o os t h K) (hg : o.guard = some (j, want) := by rfl) (hj : (ops[j]?).bind (·.dst) = some e := by rfl) : wOps P ρ n ops (o :: os) t h K := by
  refine ⟨hw.1, ?_⟩
  rw [hg]
  simp only [hj, hb]
  refine ⟨fun _ => ?_, fun hbw => absurd hbw (by cases want <;> simp)⟩
  rw [upd_same_fr hb]
  exact hw.2
theorem wN {d j e : Nat} {want : Bool} (hb : t e = some (.bool !want)) (hw : wOps P ρ n ops os (upd t d (.tup [])) h K) (hg : o.guard = some (j, want) := by rfl) (hj : (ops[j]?).bind (·.dst) = some e := by rfl) (hd : o.dst = some d := by rfl) (hn : d < n := by decide) : wOps P ρ n ops (o :: os) t h K := by
  refine ⟨by unfold dstOk; rw [hd]; exact hn, ?_⟩
  rw [hg]
  simp only [hj, hb]
  refine ⟨fun hbw => absurd hbw (by cases want <;> simp), fun _ => ?_⟩
  rw [upd_same_fr hb, hd]
  exact hw
/-- The guard itself was passed over. -/
theorem wZ {d j e : Nat} {want : Bool} {cs : List V} (hb : t e = some (.tup cs)) (hw : wOps P ρ n ops os (upd t d (.tup [])) h K) (hg : o.guard = some (j, want) := by rfl) (hj : (ops[j]?).bind (·.dst) = some e := by rfl) (hd : o.dst = some d := by rfl) (hn : d < n := by decide) : wOps P ρ n ops (o :: os) t h K := by
  refine ⟨by unfold dstOk; rw [hd]; exact hn, ?_⟩
  rw [hg]
  simp only [hj, hb, hd]
  exact hw
theorem wOps.done (hk : K t h) : wOps P ρ n ops [] t h K := hk
theorem dstOk_of {d : Nat} (hd : o.dst = some d) (hn : d < n) : dstOk n o := by unfold dstOk; rw [hd]; exact hn
theorem dstOk_no (hd : o.dst = none) : dstOk n o := by unfold dstOk; rw [hd]; trivial

/-- An operation that leaves memory as it is. -/
inductive NoFx : Op → Prop where
  | move (x : Operand) : NoFx (.move x)
  | assign (x : Operand) : NoFx (.assign x)
  | pick (c a b : Operand) : NoFx (.pick c a b)
  | load (T : TypeId) (a : Operand) : NoFx (.load T a)
  | nilCheck (x : Operand) : NoFx (.nilCheck x)
  | binOp (p : BinOp) (T : TypeId) (x y : Operand) (U : TypeId) : NoFx (.binOp p T x y U)
  | unOp (p : UnOp) (T : TypeId) (x : Operand) : NoFx (.unOp p T x)
  | makeFunc (f : Fn) (a b : Array Operand) : NoFx (.makeFunc f a b)
  | slice (T : TypeId) (x : Operand) (a b c : Option Operand) : NoFx (.slice T x a b c)
  | fieldAddr (T : TypeId) (x : Operand) (i : Nat) : NoFx (.fieldAddr T x i)
  | field (T : TypeId) (x : Operand) (i : Nat) : NoFx (.field T x i)
  | indexAddr (T : TypeId) (x i : Operand) : NoFx (.indexAddr T x i)
  | index (T : TypeId) (x i : Operand) : NoFx (.index T x i)
  | extract (x : Operand) (i : Nat) : NoFx (.extract x i)
  | build (T : TypeId) (p : Array (Nat × Operand)) : NoFx (.build T p)
theorem gE {d : Nat} {v : V} (hv : evP P t h o = some v) (hw : wOps P ρ n ops os (upd t d v) h K) (hx : NoFx o.op := by constructor) (hd : o.dst = some d := by rfl) (hn : d < n := by decide) : wGo P ρ n ops o os t h K := by
  refine ⟨dstOk_of hd hn, ?_⟩
  rw [hd]
  cases o with
  | mk dst op ty pos after guard =>
    simp only at hx
    cases hx <;> first
      | (simp only [WOp]; rw [hv]; exact hw)
      | (rename_i p _ _ _ _; cases p <;> (simp only [WOp]; rw [hv]; exact hw))
/-- An operation whatever; what is left is asked behind a name. -/
theorem gK {d : Nat} (hw : ∀ K' : V → Hp → Prop, (∀ v h', wOps P ρ n ops os (upd t d v) h' K → K' v h') → WOp P ρ n o t h K') (hd : o.dst = some d := by rfl) (hn : d < n := by decide) : wGo P ρ n ops o os t h K := by
  refine ⟨dstOk_of hd hn, ?_⟩
  rw [hd]
  exact hw _ fun _ _ h => h
theorem gKn (hw : ∀ K' : V → Hp → Prop, (∀ v h', wOps P ρ n ops os t h' K → K' v h') → WOp P ρ n o t h K') (hd : o.dst = none := by rfl) : wGo P ρ n ops o os t h K := by
  refine ⟨dstOk_no hd, ?_⟩
  rw [hd]
  exact hw _ fun _ _ h => h
theorem gLen {d : Nat} {T ty : TypeId} {x : Operand} {a : V} {i : Int} {pos : String} {after : Array Edge} {gd : Option (Nat × Bool)} (hx : evO t x = some a) (hi : evLen h a = some i) (hf : lenFits P T a = true) (hw : wOps P ρ n ops os (upd t d (.int .i64 i)) h K) (hn : d < n := by decide) :
    wGo P ρ n ops ⟨some d, .call { callee := .builtin .len, args := #[x], argTypes := #[T] }, ty, pos, after, gd⟩ os t h K := by
  refine ⟨hn, ?_⟩
  simp only [WOp, evP, hx, hi, hf, Option.map_some, if_true]
  exact hw
theorem gCall {d : Nat} {ty : TypeId} {f : FuncId} {args : Array Operand} {ats : Array TypeId} {as : List V} {pos : String} {after : Array Edge} {gd : Option (Nat × Bool)} (ha : evOs t args.toList = some as)
    (hc : CallS P f as h fun v h' => wOps P ρ n ops os (upd t d v) h' K) (hn : d < n := by decide) :
    wGo P ρ n ops ⟨some d, .call { callee := .value (.func f), args := args, argTypes := ats }, ty, pos, after, gd⟩ os t h K := by
  refine ⟨hn, ?_⟩
  simp only [WOp, evO, ha, List.append_nil]
  exact hc
/-- A call of a contract that is given nothing. -/
theorem gPure {d : Nat} {ty : TypeId} {f : FuncId} {args : Array Operand} {ats : Array TypeId} {as : List V} {r : V} {pos : String} {after : Array Edge} {gd : Option (Nat × Bool)} (ha : evOs t args.toList = some as) (hg : isGo P f = true) (hp : PTri P f as r)
    (hw : wOps P ρ n ops os (upd t d r) h K) (hn : d < n := by decide) :
    wGo P ρ n ops ⟨some d, .call { callee := .value (.func f), args := args, argTypes := ats }, ty, pos, after, gd⟩ os t h K :=
  gCall ha (CallS.pure hg hp hw) hn
theorem gCallV {d i : Nat} {ty : TypeId} {g : FuncId} {args : Array Operand} {ats : Array TypeId} {as caps : List V} {pos : String} {after : Array Edge} {gd : Option (Nat × Bool)} (hf : t i = some (.clo g caps)) (ha : evOs t args.toList = some as)
    (hc : CallS P g (as ++ caps) h fun v h' => wOps P ρ n ops os (upd t d v) h' K) (hn : d < n := by decide) :
    wGo P ρ n ops ⟨some d, .call { callee := .value (.tmp i), args := args, argTypes := ats }, ty, pos, after, gd⟩ os t h K := by
  refine ⟨hn, ?_⟩
  simp only [WOp, evO, hf, ha]
  exact hc
theorem gYield {d i l : Nat} {ty : TypeId} {args : Array Operand} {ats : Array TypeId} {as : List V} {pos : String} {after : Array Edge} {gd : Option (Nat × Bool)} (hf : t i = some (.yield l)) (ha : evOs t args.toList = some as)
    (hc : YieldS P l as h fun v h' => wOps P ρ n ops os (upd t d v) h' K) (hn : d < n := by decide) :
    wGo P ρ n ops ⟨some d, .call { callee := .value (.tmp i), args := args, argTypes := ats }, ty, pos, after, gd⟩ os t h K := by
  refine ⟨hn, ?_⟩
  simp only [WOp, evO, hf, ha]
  exact hc
theorem gAlloc {d : Nat} {T ty : TypeId} {z : List V} {pos : String} {after : Array Edge} {gd : Option (Nat × Bool)} (hz : tzero P T = some z) (hw : ∀ b, b ∉ h.ns → wOps P ρ n ops os (upd t d (.ptr b 0)) ((b, .cells T z z.length) :: h) K) (hn : d < n := by decide) :
    wGo P ρ n ops ⟨some d, .alloc T, ty, pos, after, gd⟩ os t h K := by
  refine ⟨hn, ?_⟩
  simp only [WOp, hz]
  exact hw
theorem gBox {d : Nat} {T ty : TypeId} {x : Operand} {v : V} {pos : String} {after : Array Edge} {gd : Option (Nat × Bool)} (hx : evO t x = some v) (hw : ∀ b, b ∉ h.ns → wOps P ρ n ops os (upd t d (.ptr b 0)) ((b, .cells T (vcells v) (vcells v).length) :: h) K) (hn : d < n := by decide) :
    wGo P ρ n ops ⟨some d, .box T x, ty, pos, after, gd⟩ os t h K := by
  refine ⟨hn, ?_⟩
  simp only [WOp, hx]
  exact hw
theorem gStore {T ty : TypeId} {a x : Operand} {b i nn : Nat} {T' : TypeId} {cs : List V} {v : V} {pos : String} {after : Array Edge} {gd : Option (Nat × Bool)} (ha : evO t a = some (.ptr b i)) (hx : evO t x = some v) (hg : hget h b = some (.cells T' cs nn))
    (hs : tsz P T = some (vcells v).length) (hl : i + (vcells v).length ≤ cs.length) (hlf : (vcells v).all leafV = true) (hw : wOps P ρ n ops os t (hset h b (.cells T' (stL cs i (vcells v)) nn)) K) :
    wGo P ρ n ops ⟨none, .store T a x, ty, pos, after, gd⟩ os t h K := by
  refine ⟨trivial, ?_⟩
  simp only [WOp, ha, hx, WStore, hg]
  exact ⟨hs, hl, hlf, hw⟩
theorem gBuildSlice {d : Nat} {T e ty : TypeId} {len k : Nat} {parts : Array (Nat × Operand)} {z : List V} {ps : List (Nat × V)} {cs : List V} {pos : String} {after : Array Edge} {gd : Option (Nat × Bool)} (hT : tslice P T = some e) (hs : tsz P e = some k) (hz : tzero P e = some z)
    (hp : evParts t parts.toList = some ps) (hf : evFill (fun i => some (i * k, k)) (zcells z (len * k)) ps = some cs) (hl : len * k ≤ 16777216) (hzl : 0 < z.length)
    (hw : ∀ b, b ∉ h.ns → wOps P ρ n ops os (upd t d (.slice b 0 len len)) ((b, .cells e cs cs.length) :: h) K) (hn : d < n := by decide) :
    wGo P ρ n ops ⟨some d, .buildSlice T len parts, ty, pos, after, gd⟩ os t h K := by
  refine ⟨hn, ?_⟩
  simp only [WOp, hT, hs, hz, hp, hf]
  exact ⟨hl, hzl, hw⟩
/-- A load of one cell, of a known place. -/
theorem gLoad {d : Nat} {T ty : TypeId} {a : Operand} {b i nn : Nat} {T' : TypeId} {cs : List V} {v : V} {pos : String} {after : Array Edge} {gd : Option (Nat × Bool)} (ht : tagg P T = some false) (ha : evO t a = some (.ptr b i)) (hg : hget h b = some (.cells T' cs nn))
    (hv : cs[i]? = some v) (hw : wOps P ρ n ops os (upd t d v) h K) (hn : d < n := by decide) : wGo P ρ n ops ⟨some d, .load T a, ty, pos, after, gd⟩ os t h K := by
  refine ⟨hn, ?_⟩
  simp only [WOp, evP, ha, Option.bind_some, evLoad, hg, ldAt, ht, hv]
  exact hw
theorem gLoadF {d : Nat} {T ty : TypeId} {a : Operand} {i : Nat} {cs : List V} {v : V} {pos : String} {after : Array Edge} {gd : Option (Nat × Bool)} (ht : tagg P T = some false) (ha : evO t a = some (.fptr cs i))
    (hv : cs[i]? = some v) (hw : wOps P ρ n ops os (upd t d v) h K) (hn : d < n := by decide) : wGo P ρ n ops ⟨some d, .load T a, ty, pos, after, gd⟩ os t h K := by
  refine ⟨hn, ?_⟩
  simp only [WOp, evP, ha, Option.bind_some, evLoad, ldAt, ht, hv]
  exact hw
/-- A load of a struct or an array. -/
theorem gLoadA {d : Nat} {T ty : TypeId} {a : Operand} {b i k nn : Nat} {T' : TypeId} {cs vs : List V} {pos : String} {after : Array Edge} {gd : Option (Nat × Bool)} (ht : tagg P T = some true) (hk : tsz P T = some k) (ha : evO t a = some (.ptr b i)) (hg : hget h b = some (.cells T' cs nn))
    (hl : i + k ≤ cs.length) (hv : (cs.drop i).take k = vs) (hw : wOps P ρ n ops os (upd t d (.agg vs)) h K) (hn : d < n := by decide) : wGo P ρ n ops ⟨some d, .load T a, ty, pos, after, gd⟩ os t h K := by
  refine ⟨hn, ?_⟩
  simp only [WOp, evP, ha, Option.bind_some, evLoad, hg, ldAt, ht, hk, if_pos hl, hv]
  exact hw
theorem gLoadAF {d : Nat} {T ty : TypeId} {a : Operand} {i k : Nat} {cs vs : List V} {pos : String} {after : Array Edge} {gd : Option (Nat × Bool)} (ht : tagg P T = some true) (hk : tsz P T = some k) (ha : evO t a = some (.fptr cs i))
    (hl : i + k ≤ cs.length) (hv : (cs.drop i).take k = vs) (hw : wOps P ρ n ops os (upd t d (.agg vs)) h K) (hn : d < n := by decide) : wGo P ρ n ops ⟨some d, .load T a, ty, pos, after, gd⟩ os t h K := by
  refine ⟨hn, ?_⟩
  simp only [WOp, evP, ha, Option.bind_some, evLoad, ldAt, ht, hk, if_pos hl, hv]
  exact hw
theorem gField {d : Nat} {s u ty : TypeId} {a : Operand} {b i j off k : Nat} {pos : String} {after : Array Edge} {gd : Option (Nat × Bool)} (hf : tfld P s j = some (off, u)) (hk : tsz P u = some (k + 1)) (ha : evO t a = some (.ptr b i))
    (hw : wOps P ρ n ops os (upd t d (.ptr b (i + off))) h K) (hn : d < n := by decide) : wGo P ρ n ops ⟨some d, .fieldAddr s a j, ty, pos, after, gd⟩ os t h K := by
  refine ⟨hn, ?_⟩
  simp only [WOp, evP, ha, Option.bind_some, evField, hf, hk]
  exact hw
theorem gFieldF {d : Nat} {s u ty : TypeId} {a : Operand} {i j off k : Nat} {cs : List V} {pos : String} {after : Array Edge} {gd : Option (Nat × Bool)} (hf : tfld P s j = some (off, u)) (hk : tsz P u = some (k + 1)) (ha : evO t a = some (.fptr cs i))
    (hw : wOps P ρ n ops os (upd t d (.fptr cs (i + off))) h K) (hn : d < n := by decide) : wGo P ρ n ops ⟨some d, .fieldAddr s a j, ty, pos, after, gd⟩ os t h K := by
  refine ⟨hn, ?_⟩
  simp only [WOp, evP, ha, Option.bind_some, evField, hf, hk]
  exact hw
theorem gFieldV {d : Nat} {s ty : TypeId} {a : Operand} {j : Nat} {x v : V} {pos : String} {after : Array Edge} {gd : Option (Nat × Bool)} (ha : evO t a = some x) (hf : evFieldV P s j x = some v)
    (hw : wOps P ρ n ops os (upd t d v) h K) (hn : d < n := by decide) : wGo P ρ n ops ⟨some d, .field s a j, ty, pos, after, gd⟩ os t h K := by
  refine ⟨hn, ?_⟩
  simp only [WOp, evP, ha, Option.bind_some, hf]
  exact hw
theorem gIdxS {d : Nat} {T e ty : TypeId} {a x : Operand} {b o' len cap k : Nat} {q : IntKind} {i : Int} {pos : String} {after : Array Edge} {gd : Option (Nat × Bool)} (hT : tslice P T = some e) (hk : tsz P e = some k) (ha : evO t a = some (.slice b o' len cap)) (hx : evO t x = some (.int q i))
    (h0 : 0 ≤ i) (h1 : i < (len : Int)) (hw : wOps P ρ n ops os (upd t d (.ptr b (o' + i.toNat * k))) h K) (hn : d < n := by decide) : wGo P ρ n ops ⟨some d, .indexAddr T a x, ty, pos, after, gd⟩ os t h K := by
  refine ⟨hn, ?_⟩
  simp only [WOp, evP, ha, hx, evIndexAddr, hT, hk, if_pos (And.intro h0 h1)]
  exact hw
theorem gIdxF {d : Nat} {T e ty : TypeId} {a x : Operand} {cs : List V} {len k : Nat} {q : IntKind} {i : Int} {pos : String} {after : Array Edge} {gd : Option (Nat × Bool)} (hT : tslice P T = some e) (hk : tsz P e = some k) (ha : evO t a = some (.fslice cs len)) (hx : evO t x = some (.int q i))
    (h0 : 0 ≤ i) (h1 : i < (len : Int)) (hw : wOps P ρ n ops os (upd t d (.fptr cs (i.toNat * k))) h K) (hn : d < n := by decide) : wGo P ρ n ops ⟨some d, .indexAddr T a x, ty, pos, after, gd⟩ os t h K := by
  refine ⟨hn, ?_⟩
  simp only [WOp, evP, ha, hx, evIndexAddr, hT, hk, if_pos (And.intro h0 h1)]
  exact hw
theorem gIdxStr {d : Nat} {T ty : TypeId} {a x : Operand} {s : List UInt8} {q : IntKind} {i : Int} {c : UInt8} {pos : String} {after : Array Edge} {gd : Option (Nat × Bool)} (hT : tisstr P T = true) (ha : evO t a = some (.str s)) (hx : evO t x = some (.int q i))
    (h0 : 0 ≤ i) (hc : s[i.toNat]? = some c) (hw : wOps P ρ n ops os (upd t d (.int .u8 c.toNat)) h K) (hn : d < n := by decide) : wGo P ρ n ops ⟨some d, .index T a x, ty, pos, after, gd⟩ os t h K := by
  refine ⟨hn, ?_⟩
  simp only [WOp, evP, ha, hx, evIndexV, hT, h0, and_self, if_true, hc, Option.map_some]
  exact hw
theorem gSliceStr {d : Nat} {T ty : TypeId} {a : Operand} {lo hi : Option Operand} {s : List UInt8} {l r : Option Nat} {pos : String} {after : Array Edge} {gd : Option (Nat × Bool)} (hT : tisstr P T = true) (ha : evO t a = some (.str s)) (hl : evB t lo = some l) (hr : evB t hi = some r)
    (h1 : l.getD 0 ≤ r.getD s.length) (h2 : r.getD s.length ≤ s.length) (hw : wOps P ρ n ops os (upd t d (.str ((s.drop (l.getD 0)).take (r.getD s.length - l.getD 0)))) h K) (hn : d < n := by decide) : wGo P ρ n ops ⟨some d, .slice T a lo hi none, ty, pos, after, gd⟩ os t h K := by
  refine ⟨hn, ?_⟩
  have h3 : evB t none = some none := rfl
  simp only [WOp, evP, ha, hl, hr, h3, evSlice, hT, true_and, if_pos (And.intro h1 h2)]
  exact hw
theorem gMin {d : Nat} {ty : TypeId} {args : Array Operand} {ats : Array TypeId} {x v : V} {xs : List V} {pos : String} {after : Array Edge} {gd : Option (Nat × Bool)} (ha : evOs t args.toList = some (x :: xs)) (hm : evMin x xs = some v) (hw : wOps P ρ n ops os (upd t d v) h K) (hn : d < n := by decide) :
    wGo P ρ n ops ⟨some d, .call { callee := .builtin .min, args := args, argTypes := ats }, ty, pos, after, gd⟩ os t h K := by
  refine ⟨hn, ?_⟩
  simp only [WOp, evP, ha, hm]
  exact hw
theorem gMax {d : Nat} {ty : TypeId} {args : Array Operand} {ats : Array TypeId} {x v : V} {xs : List V} {pos : String} {after : Array Edge} {gd : Option (Nat × Bool)} (ha : evOs t args.toList = some (x :: xs)) (hm : evMax x xs = some v) (hw : wOps P ρ n ops os (upd t d v) h K) (hn : d < n := by decide) :
    wGo P ρ n ops ⟨some d, .call { callee := .builtin .max, args := args, argTypes := ats }, ty, pos, after, gd⟩ os t h K := by
  refine ⟨hn, ?_⟩
  simp only [WOp, evP, ha, hm]
  exact hw
theorem gConv {d : Nat} {s u ty : TypeId} {a : Operand} {x v : V} {pos : String} {after : Array Edge} {gd : Option (Nat × Bool)} (ha : evO t a = some x) (hx : ∀ l, x ≠ .str l) (hc : evConv P h s u x = some v) (hw : wOps P ρ n ops os (upd t d v) h K) (hn : d < n := by decide) :
    wGo P ρ n ops ⟨some d, .convert s u a, ty, pos, after, gd⟩ os t h K := by
  refine ⟨hn, ?_⟩
  cases x <;> first
    | (exact absurd rfl (hx _))
    | (simp only [WOp, ha, hc]; exact hw)
theorem gBuild {d : Nat} {T ty : TypeId} {parts : Array (Nat × Operand)} {ps : List (Nat × V)} {v : V} {pos : String} {after : Array Edge} {gd : Option (Nat × Bool)} (hp : evParts t parts.toList = some ps) (hb : evBuild P T ps = some v) (hw : wOps P ρ n ops os (upd t d v) h K) (hn : d < n := by decide) :
    wGo P ρ n ops ⟨some d, .build T parts, ty, pos, after, gd⟩ os t h K := by
  refine ⟨hn, ?_⟩
  simp only [WOp, evP, hp, Option.bind_some, hb]
  exact hw
/-- Through a law of its own (append, copy, make, []byte(s), ..). -/
theorem gOp {d : Nat} (hs : OpS P ρ n o t h fun v h' => wOps P ρ n ops os (upd t d v) h' K) (hx : WOp P ρ n o t h = OpS P ρ n o t h) (hd : o.dst = some d := by rfl) (hn : d < n := by decide) : wGo P ρ n ops o os t h K := by
  refine ⟨dstOk_of hd hn, ?_⟩
  rw [hd, hx]
  exact hs

/-- A slice that may be nil, compared with nil. -/
theorem OpS.eqnil {T U : TypeId} {p q : Operand} {cs : List V} {len : Nat} {K : V → Hp → Prop} (hop : o.op = .binOp .eql T p q U) (hT : tkd P T = some 2) (hp : evO t p = some (.fslice cs len)) (hq : evO t q = some .nilslice)
    (hk : ∀ b, (b = true → cs = [] ∧ len = 0) → K (.bool b) h) : OpS P ρ n o t h K := by
  refine OpS.of_value (by simp [hop]) fun F w tm D ho hf => ?_
  have ep := evO_r (ds := D) hf hp
  have eq := evO_r (ds := D) hf hq
  obtain ⟨e, he⟩ := tund_sl hT
  rcases ep.fslice_inv with ⟨rfl, rfl, e1⟩ | ⟨a, cap, g, e1, hl, h1, h2⟩
  · have k : (Op.equal T (.slice none 0 0) (.slice none 0 0)).run P w = .ok true w := by
      have g : ∀ m, (Op.equalIn (m + 1) T (.slice none 0 0) (.slice none 0 0)).run P w = .ok true w := fun m => by simp [Op.equalIn, tund_run he, Sem.run_bind]
      exact g 9999
    refine ⟨_, .bool true, h, F, w, ?_, hk true (fun _ => ⟨rfl, rfl⟩), ho, .bool _, Trans.refl _ _ _⟩
    simp [execOp, hop, e1, eq.nilslice_inv, eqGuard, binOp, Sem.run_bind, k]
  · have k : (Op.equal T (.slice (some a) len cap) (.slice none 0 0)).run P w = .ok false w := by
      have g : ∀ m, (Op.equalIn (m + 1) T (.slice (some a) len cap) (.slice none 0 0)).run P w = .ok false w := fun m => by simp [Op.equalIn, tund_run he, Sem.run_bind]
      exact g 9999
    refine ⟨_, .bool false, h, F, w, ?_, hk false (fun e => by simp at e), ho, .bool _, Trans.refl _ _ _⟩
    simp [execOp, hop, e1, eq.nilslice_inv, eqGuard, binOp, Sem.run_bind, k]

/-! ### Loops -/
theorem sub_nil (t : Fr) : Fr.sub t (frL []) := fun i v hv => by simp [frL, fr0] at hv
theorem sub_cons {t : Fr} {i : Nat} {v : V} {r : List (Nat × V)} (h1 : t i = some v) (h2 : Fr.sub t (frL r)) : Fr.sub t (frL ((i, v) :: r)) := fun j u hu => by
  simp only [frL, upd] at hu
  split at hu
  · rename_i e
    simp only [Option.some.injEq] at hu
    subst hu; subst e
    exact h1
  · exact h2 j u hu
/-- A loop's relation: known temporaries and what is owned, for a ghost a. -/
theorem WC.loopI {α : Type} {c : Code} {t : Fr} {h : Hp} {dl : List Nat} {Q : Po} (fr : α → List (Nat × V)) (hp : α → Hp) (m : α → Nat) (I : α → Prop) (a0 : α)
    (hs : Fr.sub t (frL (fr a0))) (hh : Ent (frL (fr a0)) h (frL (fr a0)) (hp a0)) (h0 : I a0)
    (round : ∀ a, I a → WC P ρ n c (frL (fr a)) (hp a) dl (thn (fun t' h' dl' => ∃ b, dl' = dl ∧ m b < m a ∧ I b ∧ Ent t' h' (frL (fr b)) (hp b)) Q)) : WC P ρ n (.loop c) t h dl Q := by
  refine WC.loopE (fun j t h dl' => ∃ a, dl' = dl ∧ m a = j ∧ I a ∧ t = frL (fr a) ∧ h = hp a) (fun j t h dl' hI => ?_) (j := m a0) ((Ent.sub hs).trans hh) ⟨a0, rfl, rfl, h0, rfl, rfl⟩
  obtain ⟨a, rfl, rfl, hIa, rfl, rfl⟩ := hI
  refine (round a hIa).mono fun e t h dl q => ?_
  cases e with
  | normal =>
    obtain ⟨b, e1, e2, e3, e4⟩ := q
    exact ⟨m b, _, _, e2, e4, b, e1, rfl, e3, rfl, rfl⟩
  | _ => exact q
/-- Where ways meet again. -/
theorem WC.seq_cut {α : Type} {x y : Code} {t : Fr} {h : Hp} {dl : List Nat} {Q : Po} (fr : α → List (Nat × V)) (hp : α → Hp) (I : α → Prop)
    (hw : WC P ρ n x t h dl (thn (fun t' h' dl' => ∃ a, dl' = dl ∧ I a ∧ Ent t' h' (frL (fr a)) (hp a)) Q)) (hy : ∀ a, I a → WC P ρ n y (frL (fr a)) (hp a) dl Q) : WC P ρ n (.seq x y) t h dl Q := by
  refine WC.seq (hw.mono fun e t h dl q => ?_)
  cases e with
  | normal => obtain ⟨a, rfl, hI, en⟩ := q; exact WC.ent en (hy a hI)
  | _ => exact q
theorem int_fit {a b : Int} (h : a = b) (h0 : 0 ≤ a) (h1 : a ≤ 9223372036854775807) : some (V.int .i64 (IntKind.i64.wrap a)) = some (V.int .i64 b) := by rw [wrap64_fit h0 h1, h]
theorem str_at {s : List UInt8} {k : Nat} (h : k < s.length) : s[((k : Nat) : Int).toNat]? = some s[k] := by simp [h]
end Go.Fw
end
