/- A part of the proof: FwAE -/
import Derived.Test.YtmohgegpcfkooaaGreatDoorFwS
import Derived.Laws.StructEq
set_option linter.all false
set_option linter.unusedSectionVars false
set_option linter.unusedVariables false
set_option linter.unusedSimpArgs false
namespace Go.Fw
variable [Gl]
variable {P : Program} {ρ : Option Nat} {n : Nat} {o : Oper} {t : Fr} {h : Hp} {K : V → Hp → Prop}
def keyq : V → V → Option Bool
  | .str a, .str b => some (a == b)
  | .int k a, .int k' b => if k = k' then some (a == b) else none
  | _, _ => none
def mix (k : V) : List (V × V) → Option (Option Nat)
  | [] => some none
  | e :: es => match keyq k e.1 with
    | some true => some (some 0)
    | some false => (mix k es).map (Option.map (· + 1))
    | none => none
def mput (k v : V) (es : List (V × V)) : Option (List (V × V)) := (mix k es).map fun
  | some i => es.set i (k, v)
  | none => es ++ [(k, v)]
def tkey (P : Program) (T : TypeId) (k : V) : Bool := match P.underlying T, k with
  | some .string, .str _ => true
  | some (.int _), .int _ _ => true
  | _, _ => false
def tmap (P : Program) (T : TypeId) : Option (TypeId × TypeId) := match P.underlying T with
  | some (.map k e) => some (k, e)
  | _ => none
theorem tmap_und {T k e : TypeId} (h : tmap P T = some (k, e)) : P.underlying T = some (.map k e) := by
  unfold tmap at h; split at h <;> simp_all
theorem keyq_run {F : Froz} {T : TypeId} {d : TypeDesc} {k k' : V} {x x' : Value} (hd : P.underlying T = some d) (hk : tkey P T k = true) (h1 : VR F k x) (h2 : VR F k' x') {b : Bool} (hq : keyq k k' = some b) : Instr.sameNow d x x' = some b := by
  unfold keyq at hq
  split at hq
  · obtain rfl := h1.str_inv
    obtain rfl := h2.str_inv
    simp only [Option.some.injEq] at hq
    subst hq
    unfold tkey at hk
    rw [hd] at hk
    cases d <;> simp at hk
    simp only [Instr.sameNow]
    congr 1
    rename_i a b
    rw [beq_toListBytes, ba_toList, ba_toList]
  · obtain rfl := h1.int_inv
    obtain rfl := h2.int_inv
    split at hq
    · rename_i hkk
      subst hkk
      simp only [Option.some.injEq] at hq
      subst hq
      unfold tkey at hk
      rw [hd] at hk
      cases d <;> simp at hk
      simp [Instr.sameNow]
    · simp at hq
  · simp at hq
theorem findNow_run {F : Froz} {T : TypeId} {d : TypeDesc} {k : V} {x : Value} (hd : P.underlying T = some d) (hk : tkey P T k = true) (h1 : VR F k x) : ∀ (es : List (V × V)) (xs : List MapEntry) (i : Nat), es.length = xs.length →
    (∀ (j : Nat) (e : V × V) (y : MapEntry), es[j]? = some e → xs[j]? = some y → VR F e.1 y.key ∧ VR F e.2 y.val) → ∀ r, mix k es = some r → Instr.findNow d x xs i = some (r.map fun j => (i + j, (xs[j]!).val))
  | [], [], i, _, _, r, hr => by
    simp only [mix, Option.some.injEq] at hr
    subst hr
    rfl
  | e :: es, y :: xs, i, hl, hv, r, hr => by
    have h0 := hv 0 e y rfl rfl
    simp only [mix] at hr
    split at hr
    · rename_i hq
      simp only [Option.some.injEq] at hr
      subst hr
      simp only [Instr.findNow, keyq_run hd hk h1 h0.1 hq]
      rfl
    · rename_i hq
      simp only [Instr.findNow, keyq_run hd hk h1 h0.1 hq]
      obtain ⟨r0, hr0, rfl⟩ := Option.map_eq_some_iff.1 hr
      rw [findNow_run hd hk h1 es xs (i + 1) (by simpa using hl) (fun j e' y' h1' h2' => hv (j + 1) e' y' h1' h2') r0 hr0]
      cases r0 with
      | none => rfl
      | some j =>
        simp only [Option.map_some]
        congr 3
        omega
    · simp at hr
  | [], y :: xs, i, hl, _, _, _ => by simp at hl
  | e :: es, [], i, hl, _, _, _ => by simp at hl
theorem mix_lt {k : V} : ∀ {es : List (V × V)} {i : Nat}, mix k es = some (some i) → i < es.length
  | [], i, h => by simp [mix] at h
  | e :: es, i, h => by
    simp only [mix] at h
    split at h
    · simp only [Option.some.injEq] at h; subst h; simp
    · obtain ⟨r0, hr0, h2⟩ := Option.map_eq_some_iff.1 h
      cases r0 with
      | none => simp at h2
      | some j =>
        simp only [Option.map_some, Option.some.injEq] at h2
        subst h2
        have := mix_lt hr0
        simpa using this
    · simp at h
theorem checkKey_run {w : World} {T : TypeId} {k : V} {F : Froz} {x : Value} (hk : tkey P T k = true) (hx : VR F k x) (e : Bool) : (Instr.checkKey e 10000 T x).run P w = .ok () w := by
  unfold tkey at hk
  split at hk
  · rename_i hu
    obtain rfl := hx.str_inv
    rw [show (10000 : Nat) = 9999 + 1 from rfl, Instr.checkKey]
    simp only [Sem.run_bind, tund_run hu, Result.andThen_ok, Sem.run_pure]
  · rename_i hu
    obtain rfl := hx.int_inv
    rw [show (10000 : Nat) = 9999 + 1 from rfl, Instr.checkKey]
    simp only [Sem.run_bind, tund_run hu, Result.andThen_ok, Sem.run_pure]
  · simp at hk
theorem tkey_und {T : TypeId} {k : V} (hk : tkey P T k = true) : ∃ d, P.underlying T = some d := by
  unfold tkey at hk
  split at hk
  · exact ⟨_, by assumption⟩
  · exact ⟨_, by assumption⟩
  · simp at hk
theorem own_mapE {F : Froz} {w : World} (ho : Own F h w) {b : Nat} {es : List (V × V)} (hg : hget h b = some (.map es)) :
    ∃ (xs : Array MapEntry) (clock : Nat), w.heap[b]? = some (.map xs clock) ∧ xs.size = es.length ∧ (∀ (i : Nat) (e : V × V) (x : MapEntry), es[i]? = some e → xs[i]? = some x → VR F e.1 x.key ∧ VR F e.2 x.val) ∧
      (∀ (i : Nat) (x : MapEntry), xs[i]? = some x → x.born < clock) ∧ (∀ (i j : Nat) (x y : MapEntry), xs[i]? = some x → xs[j]? = some y → x.born = y.born → i = j) := by
  obtain ⟨x, hx, r⟩ := ho.get hg
  cases r with
  | map _ xs clock hl h hb hd => exact ⟨xs, clock, hx, hl, h, hb, hd⟩
theorem getObj_run {w : World} {b : Nat} {xs : Array MapEntry} {c : Nat} (hx : w.heap[b]? = some (.map xs c)) : (getObj b).run P w = .ok (.map xs c) w := by
  simp [getObj, Sem.run, hx]
theorem findKey_run {F : Froz} {w : World} {T : TypeId} {k : V} {x : Value} {es : List (V × V)} {xs : Array MapEntry} (hk : tkey P T k = true) (h1 : VR F k x) (hl : xs.size = es.length)
    (hv : ∀ (i : Nat) (e : V × V) (x : MapEntry), es[i]? = some e → xs[i]? = some x → VR F e.1 x.key ∧ VR F e.2 x.val) {r : Option Nat} (hr : mix k es = some r) :
    (Instr.findKey T x xs.toList).run P w = .ok (r.map fun j => (j, (xs.toList[j]!).val)) w := by
  obtain ⟨d, hd⟩ := tkey_und hk
  have := findNow_run (P := P) hd hk h1 es xs.toList 0 (by simpa using hl.symm) (fun j e y h1 h2 => hv j e y h1 (by simpa using h2)) r hr
  simp only [Instr.findKey, Sem.run_bind, tund_run hd, Result.andThen_ok, this, Sem.run_pure, Nat.zero_add]
theorem OpS.lookup {T kT eT : TypeId} {x i : Operand} {ok : Bool} {b : Nat} {es : List (V × V)} {k z : V} {r : Option Nat} (hop : o.op = .lookup T x i ok) (hT : tmap P T = some (kT, eT)) (hz : tzv P eT = some z) (hx : evO t x = some (.map b)) (hi : evO t i = some k) (hk : tkey P kT k = true)
    (hg : hget h b = some (.map es)) (hr : mix k es = some r) (hK : K (if ok = true then .tup [(r.bind fun j => (es[j]?).map (·.2)).getD z, .bool r.isSome] else (r.bind fun j => (es[j]?).map (·.2)).getD z) h) : OpS P ρ n o t h K := by
  refine OpS.of_value (by simp [hop]) fun F w tm D ho hf => ?_
  have ex := (evO_r (ds := D) hf hx).map_inv
  have ei := evO_r (ds := D) hf hi
  obtain ⟨xs, clock, hc, hl, hv, hb, hd⟩ := own_mapE ho hg
  have hfk := findKey_run (P := P) (w := w) hk ei hl hv hr
  have hck := checkKey_run (P := P) (w := w) hk ei xs.isEmpty
  obtain ⟨zv, hz1, hz2⟩ := tzv_run (P := P) (w := w) hz
  have hgo := getObj_run (P := P) hc
  have key : ∃ y, (execOp (Act.eval ⟨tm, D⟩) o).run P w = .ok (.value (if ok = true then .tuple #[y, .bool r.isSome] else y)) w ∧ VR F ((r.bind fun j => (es[j]?).map (·.2)).getD z) y := by
    cases r with
    | none =>
      refine ⟨zv, ?_, hz2 F⟩
      simp only [Option.map_none] at hfk
      simp only [execOp, hop, ex, Instr.lookup, Sem.run_bind, tund_run (tmap_und hT), Result.andThen_ok, hgo, Sem.run_pure, hck, hfk, hz1, Option.isSome_none]
    | some j =>
      have hj := mix_lt hr
      have e1 : es[j]? = some es[j] := by simp [hj]
      have e2 : xs[j]? = some xs[j] := by simp [hl, hj]
      refine ⟨xs[j].val, ?_, ?_⟩
      · have e3 : (xs.toList[j]!).val = xs[j].val := by simp [hl, hj]
        simp only [Option.map_some, e3] at hfk
        simp only [execOp, hop, ex, Instr.lookup, Sem.run_bind, tund_run (tmap_und hT), Result.andThen_ok, hgo, Sem.run_pure, hck, hfk, Option.isSome_some]
      · simp only [Option.bind_some, e1, Option.map_some, Option.getD_some]
        exact (hv j _ _ e1 e2).2
  obtain ⟨y, h1, h2⟩ := key
  refine ⟨_, if ok = true then .tuple #[y, .bool r.isSome] else y, _, F, w, h1, hK, ho, ?_, Trans.refl _ _ _⟩
  · cases ok with
    | true =>
      simp only [if_true]
      exact .tup _ _ rfl fun i v hv => by
        match i with
        | 0 => simp at hv; subst hv; exact h2
        | 1 => simp at hv; subst hv; exact .bool _
        | i + 2 => simp at hv
    | false => simpa using h2
theorem OpS.makeMap {T : TypeId} (hop : o.op = .makeMap T none) (hk : ∀ b, b ∉ h.ns → K (.map b) ((b, .map []) :: h)) : OpS P ρ n o t h K := by
  refine OpS.of_value (by simp [hop]) fun F w tm D ho hf => ?_
  refine ⟨.map w.heap.size, .map (some w.heap.size), _, F, w.alloc (.map #[] 0), ?_, hk w.heap.size ho.fresh, ho.push (.map [] #[] 0 rfl (fun i e x h => by simp at h) (fun i x h => by simp at h) (fun i j x y h => by simp at h)), .map _, Trans.push _ _ _ _ _⟩
  simp [execOp, hop, Instr.makeMap, Sem.run_bind, newObj, Sem.run]
theorem sameBits_self {F : Froz} {k k' : V} {x x' : Value} (h1 : VR F k x) (h2 : VR F k' x') (hq : keyq k k' = some true) : Instr.sameBits 10000 x' x = true := by
  unfold keyq at hq
  split at hq
  · obtain rfl := h1.str_inv
    obtain rfl := h2.str_inv
    simp only [Option.some.injEq] at hq
    unfold Instr.sameBits
    rw [beq_toListBytes, ba_toList, ba_toList, beq_iff_eq]
    exact (beq_iff_eq.1 hq).symm
  · obtain rfl := h1.int_inv
    obtain rfl := h2.int_inv
    split at hq
    · rename_i hkk
      subst hkk
      simp only [Option.some.injEq, beq_iff_eq] at hq
      subst hq
      unfold Instr.sameBits
      simp
    · simp at hq
  · simp at hq
theorem mix_eq {k : V} : ∀ {es : List (V × V)} {i : Nat}, mix k es = some (some i) → ∃ e, es[i]? = some e ∧ keyq k e.1 = some true
  | [], i, h => by simp [mix] at h
  | e :: es, i, h => by
    simp only [mix] at h
    split at h
    · rename_i hq
      simp only [Option.some.injEq] at h; subst h; exact ⟨e, rfl, hq⟩
    · obtain ⟨r0, hr0, h2⟩ := Option.map_eq_some_iff.1 h
      cases r0 with
      | none => simp at h2
      | some j =>
        simp only [Option.map_some, Option.some.injEq] at h2
        subst h2
        exact mix_eq (es := es) hr0
    · simp at h
theorem OpS.mapUpdate {T kT eT : TypeId} {m i x : Operand} {b : Nat} {es es' : List (V × V)} {k v : V} (hop : o.op = .mapUpdate T m i x ∨ o.op = .insert T m i x) (hT : tmap P T = some (kT, eT)) (hm : evO t m = some (.map b)) (hi : evO t i = some k) (hx : evO t x = some v) (hk : tkey P kT k = true)
    (hg : hget h b = some (.map es)) (hr : mput k v es = some es') (hK : K (.tup []) (hset h b (.map es'))) : OpS P ρ n o t h K := by
  refine OpS.of_skip (by rcases hop with hop | hop <;> simp [hop]) fun F w tm D ho hf => ?_
  have em := (evO_r (ds := D) hf hm).map_inv
  have ei := evO_r (ds := D) hf hi
  have ex := evO_r (ds := D) hf hx
  obtain ⟨xs, clock, hc, hl, hv, hb, hd⟩ := own_mapE ho hg
  unfold mput at hr
  obtain ⟨r, hr0, hr1⟩ := Option.map_eq_some_iff.1 hr
  have hfk := findKey_run (P := P) (w := w) hk ei hl hv hr0
  have hck := checkKey_run (P := P) (w := w) hk ei false
  have hgo := getObj_run (P := P) hc
  have hop' : (execOp (Act.eval ⟨tm, D⟩) o) = (do Instr.mapUpdate T (Act.eval ⟨tm, D⟩ m) (Act.eval ⟨tm, D⟩ i) (Act.eval ⟨tm, D⟩ x); pure .skip : Sem Next) := by
    rcases hop with hop | hop <;> simp [execOp, hop]
  have hset : ∀ ob, (setObj b ob).run P w = .ok () (w.putObj b ob) := fun ob => by
    have hlt := (Array.getElem?_eq_some_iff.1 hc).1
    simp [setObj, Sem.run, hc, World.putObj]
  cases r with
  | none =>
    simp only [Option.map_none] at hfk
    simp only at hr1
    subst hr1
    refine ⟨_, F, w.putObj b (.map (xs.push { key := Act.eval ⟨tm, D⟩ i, val := Act.eval ⟨tm, D⟩ x, born := clock }) (clock + 1)), ?_, hK, ho.put (hget_ns hg) ?_, Trans.put _ _ (hget_ns hg)⟩
    · rw [hop']
      simp only [em, Instr.mapUpdate, Sem.run_bind, tund_run (tmap_und hT), Result.andThen_ok, hgo, hck, hfk, hset, Sem.run_pure]
    · refine .map _ _ _ (by simp [hl]) (fun j e y he hy => ?_) (fun j y hy => ?_) (fun j j' y y' hy hy' hbb => ?_)
      · by_cases hj : j < es.length
        · rw [List.getElem?_append_left hj] at he
          rw [Array.getElem?_push, if_neg (by omega)] at hy
          exact hv j e y he hy
        · have hjl : j = es.length := by
            have := (List.getElem?_eq_some_iff.1 he).1
            simp at this; omega
          subst hjl
          simp at he
          rw [Array.getElem?_push, if_pos hl.symm] at hy
          simp only [Option.some.injEq] at hy
          subst hy; subst he
          exact ⟨ei, ex⟩
      · rw [Array.getElem?_push] at hy
        split at hy
        · simp only [Option.some.injEq] at hy; subst hy; simp
        · have := hb j y hy; omega
      · rw [Array.getElem?_push] at hy hy'
        split at hy <;> split at hy'
        · omega
        · simp only [Option.some.injEq] at hy; subst hy; have := hb j' y' hy'; simp only at hbb; omega
        · simp only [Option.some.injEq] at hy'; subst hy'; have := hb j y hy; simp only at hbb; omega
        · exact hd j j' y y' hy hy' hbb
  | some j =>
    have hj := mix_lt hr0
    obtain ⟨e0, he0, hq0⟩ := mix_eq hr0
    have e2 : xs[j]? = some xs[j] := by simp [hl, hj]
    have hsb := sameBits_self ei (hv j e0 _ he0 e2).1 hq0
    simp only [Option.map_some] at hfk
    simp only at hr1
    subst hr1
    refine ⟨_, F, w.putObj b (.map (xs.modify j fun e => { e with key := Act.eval ⟨tm, D⟩ i, val := Act.eval ⟨tm, D⟩ x }) clock), ?_, hK, ho.put (hget_ns hg) ?_, Trans.put _ _ (hget_ns hg)⟩
    · rw [hop']
      have hks : (Instr.keyThatStays ((xs[j]?.map (·.key)).getD (Act.eval ⟨tm, D⟩ i)) (Act.eval ⟨tm, D⟩ i)).run P w = .ok (Act.eval ⟨tm, D⟩ i) w := by
        rw [e2]
        simp only [Option.map_some, Option.getD_some, Instr.keyThatStays]
        rw [if_pos hsb]
        simp
      simp only [em, Instr.mapUpdate, Sem.run_bind, tund_run (tmap_und hT), Result.andThen_ok, hgo, hck, hfk, hks, hset, Sem.run_pure]
    · refine .map _ _ _ (by simp [hl]) (fun j' e y he hy => ?_) (fun j' y hy => ?_) (fun j1 j2 y y' hy hy' hbb => ?_)
      · rw [Array.getElem?_modify] at hy
        rw [List.getElem?_set] at he
        by_cases hjj : j = j'
        · subst hjj
          rw [if_pos rfl, e2] at hy
          simp only [Option.map_some, Option.some.injEq] at hy
          simp [hj] at he
          subst hy; subst he
          exact ⟨ei, ex⟩
        · rw [if_neg hjj] at hy he
          exact hv j' e y he hy
      · rw [Array.getElem?_modify] at hy
        split at hy
        · obtain ⟨y0, hy0, rfl⟩ := Option.map_eq_some_iff.1 hy
          exact hb j' y0 hy0
        · exact hb j' y hy
      · have g : ∀ (a : Nat) (z : MapEntry), (xs.modify j fun e => { e with key := Act.eval ⟨tm, D⟩ i, val := Act.eval ⟨tm, D⟩ x })[a]? = some z → ∃ z0, xs[a]? = some z0 ∧ z0.born = z.born := fun a z hz => by
          rw [Array.getElem?_modify] at hz
          split at hz
          · obtain ⟨y0, hy0, rfl⟩ := Option.map_eq_some_iff.1 hz
            exact ⟨y0, hy0, rfl⟩
          · exact ⟨z, hz, rfl⟩
        obtain ⟨z1, hz1, hb1⟩ := g _ _ hy
        obtain ⟨z2, hz2, hb2⟩ := g _ _ hy'
        exact hd j1 j2 z1 z2 hz1 hz2 (by rw [hb1, hb2]; exact hbb)
end Go.Fw
