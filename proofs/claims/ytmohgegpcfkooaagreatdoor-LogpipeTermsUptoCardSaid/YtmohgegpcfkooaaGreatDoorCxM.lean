/- A part of the proof: CxM, CxL -/
import Derived.Test.YtmohgegpcfkooaaGreatDoorCxK
set_option linter.all false
set_option linter.unusedSectionVars false
set_option linter.unusedVariables false
set_option linter.unusedSimpArgs false
section
namespace Go.Fw
variable [Gl] [Yl]
variable {P : Program} {ρr : Option Nat} {n nb : Nat} {m : Fl} {h hf : Hp} {nx : Nat} {o : Oper} {arr : Array Oper} {K : V → Hp → Nat → Hp → Prop}
theorem hset_same : ∀ {h : Hp} {b : Nat} {ob : AObj}, hget h b = some ob → hset h b ob = h
  | [], b, ob, hg => by simp [hget] at hg
  | p :: r, b, ob, hg => by
    simp only [hget] at hg
    simp only [hset]
    by_cases e : p.1 = b
    · rw [if_pos e] at hg ⊢
      simp only [Option.some.injEq] at hg
      rw [← hg]
    · rw [if_neg e] at hg ⊢
      rw [hset_same hg]
theorem OpS.convT {t : Fr} {h : Hp} {K : V → Hp → Prop} {T e : TypeId} {a : Operand} {b off len cap nn : Nat} {cs : List V} (hop : o.op = .convert T T a) (hT : tslice P T = some e) (he : tint P e = some .u8) (ha : evO t a = some (.slice b off len cap)) (hg : hget h b = some (.cells 5 cs nn))
    (hk : K (.slice b off len cap) h) : OpS P ρr n o t h K := by
  refine OpS.of_value (by simp [hop]) fun F w tm D ho hf => ?_
  have hx := evO_r (ds := D) hf ha
  have ex := hx.slice_inv
  obtain ⟨c, fz, hc, hl, hnn, hz, hr⟩ := own_cells ho hg
  let fz' : Nat × Nat := if fz.1 == fz.2 then (c.size, c.size + 1) else (min fz.1 c.size, max fz.2 (c.size + 1))
  have hfz : FzOk 5 c.size fz' := by
    refine ⟨fun i hi hh => ?_, ?_⟩
    · have hi : i < c.size := hi.resolve_right fun h2 => h2.2 rfl
      simp only [fz'] at hh
      split at hh
      · simp only at hh; omega
      · rename_i hne
        simp only at hh
        have hle := hz.le
        have hne' : fz.1 ≠ fz.2 := by simpa using hne
        by_cases h1 : fz.1 < c.size
        · exact hz.out fz.1 (.inl h1) ⟨Nat.le_refl _, by omega⟩
        · omega
    · simp only [fz']
      have hle := hz.le
      split
      · simp
      · simp only; omega
  have hor : OR F (.cells 5 cs nn) (.cells c 5 fz') := by rw [hnn]; exact .cells 5 cs c fz' hl hfz hr
  have hrun : (markStringish ⟨b, off, none⟩).run P w = .ok () (w.putObj b (.cells c 5 fz')) := by
    simp only [markStringish, shape, freeze, Sem.run_bind, Sem.run, World.shape?, hc, Result.andThen_ok]
    congr 1
    unfold World.freeze World.putObj
    simp only [Nat.reduceEqDiff, if_false]
    congr 1
    apply Array.ext_getElem?
    intro i
    rw [Array.getElem?_modify, Array.getElem?_setIfInBounds]
    have hlt := (Array.getElem?_eq_some_iff.1 hc).1
    by_cases hi : b = i
    · subst hi
      rw [if_pos rfl, hc]
      simp only [Option.map_some, hlt, if_true]
      obtain ⟨f1, f2⟩ := fz
      simp [fz']
    · simp [hi]
  have hput := ho.put (b := b) (o' := .cells 5 cs nn) (hget_ns hg) hor
  rw [hset_same hg] at hput
  have htr := Trans.put (F := F) (h := h) (w := w) (b := b) (.cells 5 cs nn) (.cells c 5 fz') (hget_ns hg)
  rw [hset_same hg] at htr
  refine ⟨.slice b off len cap, .slice (some ⟨b, off, none⟩) len cap, h, F, w.putObj b (.cells c 5 fz'), ?_, hk, hput, by rw [← ex]; exact hx, htr⟩
  simp only [execOp, hop, ex, convert, Sem.run_bind, tund_run (tslice_und hT), Result.andThen_ok, tund_run (tint_und he), beq_self_eq_true, hrun, Sem.run_pure]
theorem LE.convT {T e : TypeId} {a : Operand} {b off len cap nn : Nat} {cs : List V} (hop : o.op = .convert T T a) (hT : tslice P T = some e) (he : tint P e = some .u8) (ha : evX m a = some (.slice b off len cap)) (hg : hget h b = some (.cells 5 cs nn))
    (hk : K (.slice b off len cap) h nx hf) : LE nb P ρr n o m h nx hf K := by
  refine LE.real fun ρ ν hgd hn ht => ?_
  obtain ⟨c, hc⟩ := Option.isSome_iff_exists.1 (hgd.keys _ (hget_mem hg))
  have h1 := hget_ren (ρ := ρ) (hf := hf) (h := fixH ν h) (k := b) (o := fixO ν b (.cells 5 cs nn)) (by rw [hget_fix, hg]; rfl) hn
  rw [ky_eq hc] at h1
  have ha' := evX_rT (ρ := ρ) (ν := ν) ha
  have e1 : rV ρ ν (.slice b off len cap) = .slice c off len (cf ν b cap) := by simp only [rV, fixV, renV, hc]
  rw [e1] at ha'
  refine OpS.convT hop hT he ha' h1 ?_
  rw [← e1]
  exact ⟨ρ, ν, .slice b off len cap, h, nx, hf, agr.refl _ _, agn.refl _ _, hgd, by rw [← rT_pu]; exact Ent.refl _ _, ⟨rfl, agr.refl _ _, agn.refl _ _, fun _ => rfl⟩, hk⟩
omit [Yl] in
def keqS (P : Program) (T : TypeId) (k k' : V) : Option Bool := match k, k' with
  | .agg a, .agg b => match a.all flat && b.all flat with
    | true => evEq P 8 T (.agg a) (.agg b)
    | false => none
  | _, _ => none
omit [Yl] in
def mixS (P : Program) (T : TypeId) (k : V) : List (V × V) → Option (Option Nat)
  | [] => some none
  | e :: es => match keqS P T k e.1 with
    | some true => some (some 0)
    | some false => (mixS P T k es).map (Option.map (· + 1))
    | none => none
omit [Yl] in
def tkeyS (P : Program) (T : TypeId) (k : V) : Bool := match P.underlying T, k with
  | some (.struct fs), .agg cs => cs.all flat && fs.toList.all fun f => match evPart P f.type cs f.offset with
    | some v => tkey P f.type v
    | none => false
  | _, _ => false
theorem keqS_run {F : Froz} {w : World} {T : TypeId} {k k' : V} {x x' : Value} (h1 : VR F k x) (h2 : VR F k' x') {b : Bool} (hq : keqS P T k k' = some b) : (Op.equal T x x').run P w = .ok b w := by
  unfold keqS at hq
  split at hq
  · split at hq
    · exact evEq_run (P := P) (w := w) 8 9992 T _ _ b x x' h1 h2 hq
    · simp at hq
  · simp at hq
theorem findAsking_run {F : Froz} {w : World} {T : TypeId} {k : V} {x : Value} (h1 : VR F k x) : ∀ (es : List (V × V)) (xs : List MapEntry) (i : Nat), es.length = xs.length →
    (∀ (j : Nat) (e : V × V) (y : MapEntry), es[j]? = some e → xs[j]? = some y → VR F e.1 y.key ∧ VR F e.2 y.val) → ∀ r, mixS P T k es = some r → (Instr.findAsking T x xs i).run P w = .ok (r.map fun j => (i + j, (xs[j]!).val)) w
  | [], [], i, _, _, r, hr => by
    simp only [mixS, Option.some.injEq] at hr
    subst hr
    simp [Instr.findAsking]
  | e :: es, y :: xs, i, hl, hv, r, hr => by
    have h0 := hv 0 e y rfl rfl
    simp only [mixS] at hr
    split at hr
    · rename_i hq
      simp only [Option.some.injEq] at hr
      subst hr
      simp [Instr.findAsking, keqS_run (w := w) h1 h0.1 hq]
    · rename_i hq
      obtain ⟨r0, hr0, rfl⟩ := Option.map_eq_some_iff.1 hr
      have ih := findAsking_run (w := w) h1 es xs (i + 1) (by simpa using hl) (fun j e' y' h1' h2' => hv (j + 1) e' y' h1' h2') r0 hr0
      simp only [Instr.findAsking, Sem.run_bind, keqS_run (w := w) h1 h0.1 hq, Result.andThen_ok, Bool.false_eq_true, if_false, ih]
      cases r0 with
      | none => rfl
      | some j =>
        simp only [Option.map_some]
        congr 3
        omega
    · simp at hr
  | [], y :: xs, i, hl, _, _, _ => by simp at hl
  | e :: es, [], i, hl, _, _, _ => by simp at hl
theorem findKeyS_run {F : Froz} {w : World} {T : TypeId} {k : V} {x : Value} {es : List (V × V)} {xs : Array MapEntry} (hk : tkeyS P T k = true) (h1 : VR F k x) (hl : xs.size = es.length)
    (hv : ∀ (j : Nat) (e : V × V) (y : MapEntry), es[j]? = some e → xs[j]? = some y → VR F e.1 y.key ∧ VR F e.2 y.val) {r : Option Nat} (hr : mixS P T k es = some r) : (Instr.findKey T x xs.toList).run P w = .ok (r.map fun j => (j, (xs.toList[j]!).val)) w := by
  have h2 := findAsking_run (w := w) (T := T) h1 es xs.toList 0 (by simpa using hl.symm) (fun j e y he hy => hv j e y he (by simpa using hy)) r hr
  unfold tkeyS at hk
  split at hk
  · rename_i fs cs hu
    have e0 : (Instr.findKey T x xs.toList).run P w = (Instr.findAsking T x xs.toList).run P w := by
      cases hx : xs.toList with
      | nil => simp [Instr.findKey, tund_run hu, Instr.findNow, Instr.findAsking]
      | cons e es => simp [Instr.findKey, tund_run hu, Instr.findNow, Instr.sameNow]
    rw [e0, h2]
    simp
  · simp at hk
theorem checkKeyS_run {w : World} {T : TypeId} {k : V} {F : Froz} {x : Value} (hk : tkeyS P T k = true) (hx : VR F k x) (em : Bool) : (Instr.checkKey em 10000 T x).run P w = .ok () w := by
  unfold tkeyS at hk
  split at hk
  · rename_i fs cs hu
    simp only [Bool.and_eq_true] at hk
    obtain ⟨vs, rfl, hr⟩ := hx.agg_inv
    rw [show (10000 : Nat) = 9999 + 1 from rfl, Instr.checkKey]
    simp only [Sem.run_bind, tund_run hu, Result.andThen_ok]
    rw [← Array.forIn_toList]
    have hall := hk.2
    generalize fs.toList = L at hall
    induction L with
    | nil => simp
    | cons f L ih =>
      simp only [List.all_cons, Bool.and_eq_true] at hall
      have h1 := hall.1
      split at h1
      · rename_i v hv
        obtain ⟨y, hy, r⟩ := evPart_run (P := P) (w := w) hr hv
        have hck : (Instr.checkKey em 9999 f.type y).run P w = .ok () w := by
          unfold tkey at h1
          split at h1
          · rename_i hu
            obtain rfl := r.str_inv
            rw [show (9999 : Nat) = 9998 + 1 from rfl, Instr.checkKey]
            simp only [Sem.run_bind, tund_run hu, Result.andThen_ok, Sem.run_pure]
          · rename_i hu
            obtain rfl := r.int_inv
            rw [show (9999 : Nat) = 9998 + 1 from rfl, Instr.checkKey]
            simp only [Sem.run_bind, tund_run hu, Result.andThen_ok, Sem.run_pure]
          · simp at h1
        by_cases hn : f.name = "_"
        · simp only [List.forIn_cons, Sem.run_bind, hn, ne_eq, not_true_eq_false, if_false, Result.andThen_ok, Sem.run_pure]
          exact ih hall.2
        · simp only [List.forIn_cons, Sem.run_bind, hn, ne_eq, not_false_eq_true, if_true, Result.andThen_ok, hy, hck, Sem.run_pure]
          exact ih hall.2
      · simp at h1
  · simp at hk
theorem mixS_lt {T : TypeId} {k : V} : ∀ {es : List (V × V)} {i : Nat}, mixS P T k es = some (some i) → i < es.length
  | [], i, h => by simp [mixS] at h
  | e :: es, i, h => by
    simp only [mixS] at h
    split at h
    · simp only [Option.some.injEq] at h; subst h; simp
    · obtain ⟨r0, hr0, h2⟩ := Option.map_eq_some_iff.1 h
      cases r0 with
      | none => simp at h2
      | some j =>
        simp only [Option.map_some, Option.some.injEq] at h2
        subst h2
        have := mixS_lt hr0
        simpa using this
    · simp at h
omit [Yl] in
def fvV : V → Value
  | .int k n => .int k n
  | .bool b => .bool b
  | .str s => .string ⟨s.toArray⟩
  | _ => undef
theorem fvV_ok {F : Froz} {v : V} {x : Value} (hv : flat v = true) (h : VR F v x) : x = fvV v := by cases h <;> simp_all [flat, fvV]
theorem agg_same {F : Froz} {cs : List V} {x y : Value} (hf : cs.all flat = true) (h1 : VR F (.agg cs) x) (h2 : VR F (.agg cs) y) : Instr.sameBits 10000 y x = true := by
  obtain ⟨us, rfl, r1⟩ := h1.agg_inv
  obtain ⟨vs, rfl, r2⟩ := h2.agg_inv
  show Instr.sameBits (9999 + 1) (.agg vs) (.agg us) = true
  simp only [Instr.sameBits, Bool.and_eq_true, beq_iff_eq, List.all_eq_true]
  refine ⟨by rw [r1.1, r2.1], fun p hp => ?_⟩
  obtain ⟨i, hi, e⟩ := List.getElem_of_mem hp
  rw [List.getElem_zip] at e
  rw [← e]
  simp only [Array.getElem_toList]
  have hi2 : i < cs.length := by simp only [List.length_zip, Array.length_toList, r1.1, r2.1] at hi; omega
  have e0 : cs[i]? = some cs[i] := by simp [hi2]
  have hfl := List.all_eq_true.1 hf _ (List.getElem_mem hi2)
  obtain ⟨a, ha, q1⟩ := vrs_get r1 e0
  obtain ⟨b, hb, q2⟩ := vrs_get r2 e0
  have g1 : us[i]'(by rw [r1.1]; exact hi2) = a := by have := (Array.getElem?_eq_some_iff.1 ha).2; exact this
  have g2 : vs[i]'(by rw [r2.1]; exact hi2) = b := by have := (Array.getElem?_eq_some_iff.1 hb).2; exact this
  rw [g1, g2, fvV_ok hfl q1, fvV_ok hfl q2]
  cases hc : cs[i] <;> rw [hc] at hfl <;> simp [flat] at hfl <;> first | (simp [fvV, Instr.sameBits]; done) | (simp only [fvV, Instr.sameBits]; rw [beq_toListBytes]; simp)
theorem OpS.lookupS {t : Fr} {h : Hp} {K : V → Hp → Prop} {T kT eT : TypeId} {x i : Operand} {ok : Bool} {b : Nat} {es : List (V × V)} {k z : V} {r : Option Nat} (hop : o.op = .lookup T x i ok) (hT : tmap P T = some (kT, eT)) (hz : tzv P eT = some z) (hx : evO t x = some (.map b)) (hi : evO t i = some k) (hk : tkeyS P kT k = true)
    (hg : hget h b = some (.map es)) (hr : mixS P kT k es = some r) (hK : K (if ok = true then .tup [(r.bind fun j => (es[j]?).map (·.2)).getD z, .bool r.isSome] else (r.bind fun j => (es[j]?).map (·.2)).getD z) h) : OpS P ρr n o t h K := by
  refine OpS.of_value (by simp [hop]) fun F w tm D ho hf => ?_
  have ex := (evO_r (ds := D) hf hx).map_inv
  have ei := evO_r (ds := D) hf hi
  obtain ⟨xs, clock, hc, hl, hv, hb, hd⟩ := own_mapE ho hg
  have hfk := findKeyS_run (P := P) (w := w) hk ei hl hv hr
  have hck := checkKeyS_run (P := P) (w := w) hk ei xs.isEmpty
  obtain ⟨zv, hz1, hz2⟩ := tzv_run (P := P) (w := w) hz
  have hgo := getObj_run (P := P) hc
  have key : ∃ y, (execOp (Act.eval ⟨tm, D⟩) o).run P w = .ok (.value (if ok = true then .tuple #[y, .bool r.isSome] else y)) w ∧ VR F ((r.bind fun j => (es[j]?).map (·.2)).getD z) y := by
    cases r with
    | none =>
      refine ⟨zv, ?_, hz2 F⟩
      simp only [Option.map_none] at hfk
      simp only [execOp, hop, ex, Instr.lookup, Sem.run_bind, tund_run (tmap_und hT), Result.andThen_ok, hgo, Sem.run_pure, hck, hfk, hz1, Option.isSome_none]
    | some j =>
      have hj := mixS_lt hr
      have e1 : es[j]? = some es[j] := by simp [hj]
      have e2 : xs[j]? = some xs[j] := by simp [hl, hj]
      refine ⟨xs[j].val, ?_, ?_⟩
      · have e3 : (xs.toList[j]!).val = xs[j].val := by simp [hl, hj]
        simp only [Option.map_some, e3] at hfk
        simp only [execOp, hop, ex, Instr.lookup, Sem.run_bind, tund_run (tmap_und hT), Result.andThen_ok, hgo, Sem.run_pure, hck, hfk, Option.isSome_some]
      · simp only [Option.bind_some, e1, Option.map_some, Option.getD_some]
        exact (hv j _ _ e1 e2).2
  obtain ⟨y, h1, h2⟩ := key
  refine ⟨_, if ok = true then .tuple #[y, .bool r.isSome] else y, _, F, w, h1, hK, ho, ?_, Trans.refl _ _ _⟩
  · cases ok with
    | true =>
      simp only [if_true]
      exact .tup _ _ rfl fun i v hv => by
        match i with
        | 0 => simp at hv; subst hv; exact h2
        | 1 => simp at hv; subst hv; exact .bool _
        | i + 2 => simp at hv
    | false => simpa using h2
omit [Yl] in
def mputS (P : Program) (T : TypeId) (k v : V) (es : List (V × V)) : Option (List (V × V)) := match mixS P T k es with
  | some (some j) => match es[j]? with
    | some e => match beqV k e.1 with
      | true => some (es.set j (k, v))
      | false => none
    | none => none
  | some none => some (es ++ [(k, v)])
  | none => none
theorem OpS.mapUpdateS {t : Fr} {h : Hp} {K : V → Hp → Prop} {T kT eT : TypeId} {mm i x : Operand} {b : Nat} {es es' : List (V × V)} {k v : V} (hop : o.op = .mapUpdate T mm i x ∨ o.op = .insert T mm i x) (hT : tmap P T = some (kT, eT)) (hm : evO t mm = some (.map b)) (hi : evO t i = some k) (hx : evO t x = some v) (hk : tkeyS P kT k = true)
    (hg : hget h b = some (.map es)) (hr : mputS P kT k v es = some es') (hK : K (.tup []) (hset h b (.map es'))) : OpS P ρr n o t h K := by
  refine OpS.of_skip (by rcases hop with hop | hop <;> simp [hop]) fun F w tm D ho hf => ?_
  have em := (evO_r (ds := D) hf hm).map_inv
  have ei := evO_r (ds := D) hf hi
  have ex := evO_r (ds := D) hf hx
  obtain ⟨xs, clock, hc, hl, hv, hb, hd⟩ := own_mapE ho hg
  have hck := checkKeyS_run (P := P) (w := w) hk ei false
  have hgo := getObj_run (P := P) hc
  have hop' : (execOp (Act.eval ⟨tm, D⟩) o) = (do Instr.mapUpdate T (Act.eval ⟨tm, D⟩ mm) (Act.eval ⟨tm, D⟩ i) (Act.eval ⟨tm, D⟩ x); pure .skip : Sem Next) := by
    rcases hop with hop | hop <;> simp [execOp, hop]
  have hset : ∀ ob, (setObj b ob).run P w = .ok () (w.putObj b ob) := fun ob => by
    have hlt := (Array.getElem?_eq_some_iff.1 hc).1
    simp [setObj, Sem.run, hc, World.putObj]
  unfold mputS at hr
  split at hr
  · rename_i j hmx
    split at hr
    · rename_i e0 he0
      split at hr
      · rename_i hbq
        simp only [Option.some.injEq] at hr
        subst hr
        have hj := mixS_lt hmx
        have hfk := findKeyS_run (P := P) (w := w) hk ei hl hv hmx
        have e2 : xs[j]? = some xs[j] := by simp [hl, hj]
        have hsb : Instr.sameBits 10000 xs[j].key (Act.eval ⟨tm, D⟩ i) = true := by
          have h2 := (hv j e0 _ he0 e2).1
          rw [← beqV_eq _ _ hbq] at h2
          unfold tkeyS at hk
          split at hk
          · simp only [Bool.and_eq_true] at hk
            exact agg_same hk.1 ei h2
          · simp at hk
        simp only [Option.map_some] at hfk
        refine ⟨_, F, w.putObj b (.map (xs.modify j fun e => { e with key := Act.eval ⟨tm, D⟩ i, val := Act.eval ⟨tm, D⟩ x }) clock), ?_, hK, ho.put (hget_ns hg) ?_, Trans.put _ _ (hget_ns hg)⟩
        · rw [hop']
          have hks : (Instr.keyThatStays ((xs[j]?.map (·.key)).getD (Act.eval ⟨tm, D⟩ i)) (Act.eval ⟨tm, D⟩ i)).run P w = .ok (Act.eval ⟨tm, D⟩ i) w := by
            rw [e2]
            simp only [Option.map_some, Option.getD_some, Instr.keyThatStays]
            rw [if_pos hsb]
            simp
          simp only [em, Instr.mapUpdate, Sem.run_bind, tund_run (tmap_und hT), Result.andThen_ok, hgo, hck, hfk, hks, hset, Sem.run_pure]
        · refine .map _ _ _ (by simp [hl]) (fun j' e y he hy => ?_) (fun j' y hy => ?_) (fun j1 j2 y y' hy hy' hbb => ?_)
          · rw [Array.getElem?_modify] at hy
            rw [List.getElem?_set] at he
            by_cases hjj : j = j'
            · subst hjj
              rw [if_pos rfl, e2] at hy
              simp only [Option.map_some, Option.some.injEq] at hy
              simp [hj] at he
              subst hy; subst he
              exact ⟨ei, ex⟩
            · rw [if_neg hjj] at hy he
              exact hv j' e y he hy
          · rw [Array.getElem?_modify] at hy
            split at hy
            · obtain ⟨y0, hy0, rfl⟩ := Option.map_eq_some_iff.1 hy
              exact hb j' y0 hy0
            · exact hb j' y hy
          · have g : ∀ (a : Nat) (z : MapEntry), (xs.modify j fun e => { e with key := Act.eval ⟨tm, D⟩ i, val := Act.eval ⟨tm, D⟩ x })[a]? = some z → ∃ z0, xs[a]? = some z0 ∧ z0.born = z.born := fun a z hz => by
              rw [Array.getElem?_modify] at hz
              split at hz
              · obtain ⟨y0, hy0, rfl⟩ := Option.map_eq_some_iff.1 hz
                exact ⟨y0, hy0, rfl⟩
              · exact ⟨z, hz, rfl⟩
            obtain ⟨z1, hz1, hb1⟩ := g _ _ hy
            obtain ⟨z2, hz2, hb2⟩ := g _ _ hy'
            exact hd j1 j2 z1 z2 hz1 hz2 (by rw [hb1, hb2]; exact hbb)
      · simp at hr
    · simp at hr
  · rename_i hmx
    simp only [Option.some.injEq] at hr
    subst hr
    have hfk := findKeyS_run (P := P) (w := w) hk ei hl hv hmx
    simp only [Option.map_none] at hfk
    refine ⟨_, F, w.putObj b (.map (xs.push { key := Act.eval ⟨tm, D⟩ i, val := Act.eval ⟨tm, D⟩ x, born := clock }) (clock + 1)), ?_, hK, ho.put (hget_ns hg) ?_, Trans.put _ _ (hget_ns hg)⟩
    · rw [hop']
      simp only [em, Instr.mapUpdate, Sem.run_bind, tund_run (tmap_und hT), Result.andThen_ok, hgo, hck, hfk, hset, Sem.run_pure]
    · refine .map _ _ _ (by simp [hl]) (fun j e y he hy => ?_) (fun j y hy => ?_) (fun j j' y y' hy hy' hbb => ?_)
      · by_cases hj : j < es.length
        · rw [List.getElem?_append_left hj] at he
          rw [Array.getElem?_push, if_neg (by omega)] at hy
          exact hv j e y he hy
        · have hjl : j = es.length := by
            have := (List.getElem?_eq_some_iff.1 he).1
            simp at this; omega
          subst hjl
          simp at he
          rw [Array.getElem?_push, if_pos hl.symm] at hy
          simp only [Option.some.injEq] at hy
          subst hy; subst he
          exact ⟨ei, ex⟩
      · rw [Array.getElem?_push] at hy
        split at hy
        · simp only [Option.some.injEq] at hy; subst hy; simp
        · have := hb j y hy; omega
      · rw [Array.getElem?_push] at hy hy'
        split at hy <;> split at hy'
        · omega
        · simp only [Option.some.injEq] at hy; subst hy; have := hb j' y' hy'; simp only at hbb; omega
        · simp only [Option.some.injEq] at hy'; subst hy'; have := hb j y hy; simp only at hbb; omega
        · exact hd j j' y y' hy hy' hbb
  · simp at hr
theorem flatL_rV {ρ : Nat → Option Nat} {ν : Nat → Nat} : ∀ {l : List V}, l.all flat = true → renL ρ (fixL ν l) = l
  | [], _ => rfl
  | v :: r, h => by
    simp only [List.all_cons, Bool.and_eq_true] at h
    simp only [fixL, renL, flat_fix h.1, flat_ren h.1, flatL_rV h.2]
theorem keqS_rV {ρ : Nat → Option Nat} {ν : Nat → Nat} {T : TypeId} {k k' : V} {b : Bool} (h : keqS P T k k' = some b) : rV ρ ν k = k ∧ rV ρ ν k' = k' := by
  unfold keqS at h
  split at h
  · split at h
    · rename_i hc
      simp only [Bool.and_eq_true] at hc
      exact ⟨by simp only [rV, fixV, renV, flatL_rV hc.1], by simp only [rV, fixV, renV, flatL_rV hc.2]⟩
    · simp at h
  · simp at h
theorem mixS_rV {ρ : Nat → Option Nat} {ν : Nat → Nat} {T : TypeId} {k : V} : ∀ {es : List (V × V)} {r : Option Nat}, mixS P T k es = some r → mixS P T (rV ρ ν k) (rE ρ ν es) = some r
  | [], r, h => h
  | e :: es, r, h => by
    simp only [mixS] at h
    simp only [rE, List.map_cons, mixS]
    split at h
    · rename_i hq
      obtain ⟨e1, e2⟩ := keqS_rV (ρ := ρ) (ν := ν) hq
      simp only [rV] at e1 e2
      simp only [rV, e1, e2, hq]; exact h
    · rename_i hq
      obtain ⟨e1, e2⟩ := keqS_rV (ρ := ρ) (ν := ν) hq
      obtain ⟨r0, hr0, rfl⟩ := Option.map_eq_some_iff.1 h
      have := mixS_rV (ρ := ρ) (ν := ν) hr0
      simp only [rV, rE] at this e1 e2
      rw [e1] at this
      simp only [rV, e1, e2, hq, this, Option.map_some]
    · simp at h
theorem tkeyS_rV {ρ : Nat → Option Nat} {ν : Nat → Nat} {T : TypeId} {k : V} (h : tkeyS P T k = true) : rV ρ ν k = k := by
  unfold tkeyS at h
  split at h
  · simp only [Bool.and_eq_true] at h
    simp only [rV, fixV, renV, flatL_rV h.1]
  · simp at h
theorem mputS_rV {ρ : Nat → Option Nat} {ν : Nat → Nat} {T : TypeId} {k v : V} {es es' : List (V × V)} (hk : rV ρ ν k = k) (h : mputS P T k v es = some es') : mputS P T k (rV ρ ν v) (rE ρ ν es) = some (rE ρ ν es') := by
  unfold mputS at h ⊢
  split at h
  · rename_i j hmx
    have h1 := mixS_rV (ρ := ρ) (ν := ν) hmx
    rw [hk] at h1
    rw [h1]
    simp only
    split at h
    · rename_i e he
      split at h
      · rename_i hb
        simp only [Option.some.injEq] at h; subst h
        have e1 := beqV_eq _ _ hb
        rw [rE_get, he]
        simp only [Option.map_some]
        rw [← e1, hk]
        have : beqV k k = true := by rw [e1] at hb ⊢; exact hb
        rw [this]
        simp only [rE, List.map_set]
        have hk' : renV ρ (fixV ν k) = k := hk
        rw [hk']
        rfl
      · simp at h
    · simp at h
  · rename_i hmx
    have h1 := mixS_rV (ρ := ρ) (ν := ν) hmx
    rw [hk] at h1
    rw [h1]
    simp only [Option.some.injEq] at h; subst h
    have hk' : renV ρ (fixV ν k) = k := hk
    simp [rE, rV, hk']
  · simp at h
theorem LE.lookupS {T kT eT : TypeId} {x i : Operand} {ok : Bool} {b : Nat} {es : List (V × V)} {k z : V} {r : Option Nat} (hop : o.op = .lookup T x i ok) (hT : tmap P T = some (kT, eT)) (hz : tzv P eT = some z) (hx : evX m x = some (.map b)) (hi : evX m i = some k) (hk : tkeyS P kT k = true)
    (hg : hget h b = some (.map es)) (hr : mixS P kT k es = some r) (hK : K (lkV z ok es r) h nx hf) : LE nb P ρr n o m h nx hf K :=
  LE.real fun ρ ν hgd hn ht => by
    obtain ⟨c, hc⟩ := Option.isSome_iff_exists.1 (hgd.keys _ (hget_mem hg))
    have h1 := hget_ren (ρ := ρ) (hf := hf) (h := fixH ν h) (k := b) (o := fixO ν b (.map es)) (by rw [hget_fix, hg]; rfl) hn
    rw [ky_eq hc] at h1
    have hx' := evX_rT (ρ := ρ) (ν := ν) hx
    simp only [rV, fixV, renV, hc] at hx'
    have hkk := tkeyS_rV (ρ := ρ) (ν := ν) hk
    have hi' := evX_rT (ρ := ρ) (ν := ν) hi
    have hmx := mixS_rV (ρ := ρ) (ν := ν) hr
    rw [hkk] at hi' hmx
    refine OpS.lookupS hop hT hz hx' hi' hk h1 hmx ?_
    have := lkV_rV (ρ := ρ) (ν := ν) (tzv_dry hz) (ok := ok) (es := es) (r := r)
    simp only [rE] at this
    refine ⟨ρ, ν, lkV z ok es r, h, nx, hf, agr.refl _ _, agn.refl _ _, hgd, ?_, ⟨this, agr.refl _ _, agn.refl _ _, fun _ => rfl⟩, hK⟩
    rw [← rT_pu, this]
    exact Ent.refl _ _
theorem LE.mapUpdateS {T kT eT : TypeId} {mm i x : Operand} {b : Nat} {es es' : List (V × V)} {k v : V} (hop : o.op = .mapUpdate T mm i x ∨ o.op = .insert T mm i x) (hT : tmap P T = some (kT, eT)) (hm : evX m mm = some (.map b)) (hi : evX m i = some k) (hx : evX m x = some v) (hk : tkeyS P kT k = true) (hd : o.dst = none)
    (hg : hget h b = some (.map es)) (hr : mputS P kT k v es = some es') (hK : K (.tup []) (hset h b (.map es')) nx hf) : LE nb P ρr n o m h nx hf K :=
  LE.put hg hd (fun ρ ν c K hc hn ht h1 hK => by
    have hm' := evX_rT (ρ := ρ) (ν := ν) hm
    simp only [rV, fixV, renV, hc] at hm'
    have hkk := tkeyS_rV (ρ := ρ) (ν := ν) hk
    have hi' := evX_rT (ρ := ρ) (ν := ν) hi
    rw [hkk] at hi'
    exact OpS.mapUpdateS hop hT hm' hi' (evX_rT hx) hk h1 (mputS_rV (ρ := ρ) (ν := ν) hkk hr) hK) hK
omit [Yl] in
def eE2 (P : Program) (m : Fl) (h : Hp) (nx : Nat) (o : Oper) : Option (V × Hp × Nat) := match o.op with
  | .convert sT dT a => match Nat.beq sT dT with
    | true => match evX m a with
      | some (.slice b off len cap) => match tslice P sT with
        | some e => match tint P e with
          | some .u8 => match hget h b with
            | some (.cells T _ _) => match Nat.beq T 5 with
              | true => some (.slice b off len cap, h, nx)
              | false => none
            | _ => none
          | _ => none
        | none => none
      | _ => none
    | false => none
  | .lookup T x i ok => match tmap P T with
    | some (kT, eT) => match tzv P eT with
      | some z => match evX m x with
        | some (.map b) => match evX m i with
          | some k => match tkeyS P kT k with
            | true => match hget h b with
              | some (.map es) => match mixS P kT k es with
                | some r => some (lkV z ok es r, h, nx)
                | none => none
              | _ => none
            | false => none
          | none => none
        | _ => none
      | none => none
    | none => none
  | .mapUpdate T mm i x => match o.dst with
    | some _ => none
    | none => match tmap P T with
      | some (kT, eT) => match evX m mm with
        | some (.map b) => match evX m i with
          | some k => match evX m x with
            | some v => match tkeyS P kT k with
              | true => match hget h b with
                | some (.map es) => match mputS P kT k v es with
                  | some es' => some (.tup [], hset h b (.map es'), nx)
                  | none => none
                | _ => none
              | false => none
            | none => none
          | none => none
        | _ => none
      | none => none
  | _ => none
theorem eE2_ok {v : V} {h' : Hp} {nx' : Nat} (he : eE2 P m h nx o = some (v, h', nx')) (hk : K v h' nx' hf) : LE nb P ρr n o m h nx hf K := by
  unfold eE2 at he
  split at he <;> rename_i hop
  · split at he
    · rename_i hb
      have := nbeq hb; subst this
      split at he
      · rename_i ha
        split at he
        · rename_i hT
          split at he
          · rename_i hu
            split at he
            · rename_i hg
              split at he
              · rename_i h5
                have := nbeq h5; subst this
                simp only [Option.some.injEq, Prod.mk.injEq] at he
                obtain ⟨rfl, rfl, rfl⟩ := he
                exact LE.convT hop hT hu ha hg hk
              · simp at he
            · simp at he
          · simp at he
        · simp at he
      · simp at he
    · simp at he
  · split at he
    · rename_i hT
      split at he
      · rename_i hz
        split at he
        · rename_i hx
          split at he
          · rename_i hi
            split at he
            · rename_i hkk
              split at he
              · rename_i hg
                split at he
                · rename_i hr
                  simp only [Option.some.injEq, Prod.mk.injEq] at he
                  obtain ⟨rfl, rfl, rfl⟩ := he
                  exact LE.lookupS hop hT hz hx hi hkk hg hr hk
                · simp at he
              · simp at he
            · simp at he
          · simp at he
        · simp at he
      · simp at he
    · simp at he
  · split at he
    · simp at he
    · rename_i hd
      split at he
      · rename_i hT
        split at he
        · rename_i hm
          split at he
          · rename_i hi
            split at he
            · rename_i hx
              split at he
              · rename_i hkk
                split at he
                · rename_i hg
                  split at he
                  · rename_i hr
                    simp only [Option.some.injEq, Prod.mk.injEq] at he
                    obtain ⟨rfl, rfl, rfl⟩ := he
                    exact LE.mapUpdateS (.inl hop) hT hm hi hx hkk hd hg hr hk
                  · simp at he
                · simp at he
              · simp at he
            · simp at he
          · simp at he
        · simp at he
      · simp at he
  · simp at he
end Go.Fw
end

section
namespace Go.Fw
variable [Gl] [Yl]
variable {P : Program} {ρr : Option Nat} {n nb : Nat} {m : Fl} {h hf : Hp} {nx : Nat} {dl : List Nat} {Q : LPo} {c : Code} {ν : Nat → Nat}
theorem isY_frz (k : Nat) (cs : List V) : ∀ (l : List V), isY (frzX k cs l) = isY l
  | [] => rfl
  | [v] => by
    cases v with
    | tup l => cases l <;> rfl
    | ptr b o => simp only [frzX, frzW]; cases Nat.beq b k <;> rfl
    | slice b o l c => simp only [frzX, frzW]; cases Nat.beq b k <;> rfl
    | _ => rfl
  | u :: v :: r => by
    have e1 : ∀ (a b : V) (s : List V), isY (a :: b :: s) = false := fun a b s => by
      cases a with
      | tup l => cases l <;> rfl
      | _ => rfl
    simp only [frzX, e1]
mutual
theorem frzW_fix (k : Nat) {cs : List V} (hd : cs.all dryV1 = true) : ∀ (v : V), frzW k cs (fixV ν v) = fixV ν (frzW k cs v)
  | .ptr b o => by simp only [fixV, frzW]; cases Nat.beq b k <;> rfl
  | .slice b o l c => by simp only [fixV, frzW]; cases Nat.beq b k <;> rfl
  | .clo f l => by
    have := isY_frz k cs l
    cases hy : isY l with
    | true => simp only [fixV, frzW, this, hy, cond_true]
    | false => rw [fixV_clo _ hy]; simp only [frzW]; rw [fixV_clo _ (by rw [this]; exact hy), frzX_fix k hd l]
  | .iface t v => by simp only [fixV, frzW, frzW_fix k hd v]
  | .agg l => by simp only [fixV, frzW, frzX_fix k hd l]
  | .tup l => by simp only [fixV, frzW, frzX_fix k hd l]
  | .int _ _ | .bool _ | .str _ | .flt _ _ | .nilptr | .fptr _ _ | .nilslice | .fslice _ _ | .eslice | .nilmap | .map _ | .nilfunc | .yield _ | .niliface => rfl
theorem frzX_fix (k : Nat) {cs : List V} (hd : cs.all dryV1 = true) : ∀ (l : List V), frzX k cs (fixL ν l) = fixL ν (frzX k cs l)
  | [] => rfl
  | v :: r => by simp only [fixL, frzX, frzW_fix k hd v, frzX_fix k hd r]
end
theorem frzM_fix (k : Nat) {cs : List V} (hd : cs.all dryV1 = true) : frzM k cs (fixM ν m) = fixM ν (frzM k cs m) := by
  unfold frzM fixM
  simp only [List.map_map]
  exact List.map_congr_left fun p _ => by simp only [Function.comp, frzW_fix k hd]
theorem frzH_fix (k : Nat) {cs : List V} (hd : cs.all dryV1 = true) : frzHp k cs (fixH ν h) = fixH ν (frzHp k cs h) := by
  unfold frzHp fixH
  simp only [List.map_map]
  refine List.map_congr_left fun p _ => ?_
  simp only [Function.comp, Prod.mk.injEq, true_and]
  cases p.2 with
  | cells T l n => simp only [fixO, frzOb, frzX_fix k hd]
  | map es => simp only [fixO, frzOb, List.map_map]; congr 1; exact List.map_congr_left fun e _ => by simp only [Function.comp, frzW_fix k hd]
  | _ => rfl
theorem WE.frz {k : Nat} {T : TypeId} {cs : List V} {nn : Nat} (hk : hget h k = some (.cells T cs nn)) (hd : cs.all dryV1 = true) (hw : WE nb P ρr n c (frzM k cs m) (frzHp k cs (hdel h k)) nx hf dl Q) : WE nb P ρr n c m h nx hf dl Q := fun ρ ν hg => by
  have hk' : hget (fixH ν h) k = some (.cells T cs (nf ν k nn)) := by rw [hget_fix, hk]; simp only [Option.map_some, fixO, dryL1_fix ν hd]
  obtain ⟨g1, e1⟩ := ent_frz (m := fixM ν m) (hf := hf) ((good_fix ν).2 hg) hk' hd
  rw [hdel_fix, frzH_fix k hd] at g1 e1
  rw [frzM_fix k hd] at e1
  exact WC.ent e1 (hw ρ ν ((good_fix ν).1 g1))
omit [Yl] in
def lbs (v : V) : List Nat := match v with
  | .ptr b _ | .slice b _ _ _ => [b]
  | .clo _ l | .agg l | .tup l => l.flatMap fun
    | .ptr b _ | .slice b _ _ _ => [b]
    | _ => []
  | _ => []
omit [Yl] in
def frzAll : Nat → List Nat → Fl → Hp → Fl × Hp
  | 0, _, m, h => (m, h)
  | f + 1, [], m, h => (m, h)
  | f + 1, b :: todo, m, h => match Nat.ble BIG b with
    | true => match hget h (b - BIG) with
      | some (.cells _ cs _) => match cs.all dryV1 with
        | true => frzAll f todo (frzM (b - BIG) cs m) (frzHp (b - BIG) cs (hdel h (b - BIG)))
        | false => frzAll f todo m h
      | _ => frzAll f todo m h
    | false => match hget h b with
      | some (.cells _ cs _) => match cs.all dryV1 with
        | true => frzAll f todo (frzM b cs m) (frzHp b cs (hdel h b))
        | false => frzAll f ((cs.flatMap lbs) ++ (b + BIG) :: todo) m h
      | _ => frzAll f todo m h
theorem WE.frzAll : ∀ (f : Nat) (l : List Nat) (m : Fl) (h : Hp), WE nb P ρr n c (frzAll f l m h).1 (frzAll f l m h).2 nx hf dl Q → WE nb P ρr n c m h nx hf dl Q
  | 0, l, m, h, hw => hw
  | f + 1, [], m, h, hw => hw
  | f + 1, b :: todo, m, h, hw => by
    simp only [Fw.frzAll] at hw
    split at hw
    · split at hw
      · rename_i hg
        split at hw
        · rename_i hd
          exact WE.frz hg hd (WE.frzAll f _ _ _ hw)
        · exact WE.frzAll f _ _ _ hw
      · exact WE.frzAll f _ _ _ hw
    · split at hw
      · rename_i hg
        split at hw
        · rename_i hd
          exact WE.frz hg hd (WE.frzAll f _ _ _ hw)
        · exact WE.frzAll f _ _ _ hw
      · exact WE.frzAll f _ _ _ hw
end Go.Fw
end
