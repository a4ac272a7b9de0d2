/- A part of the proof: FwC -/
import Derived.Test.YtmohgegpcfkooaaGreatDoorFwB
set_option linter.all false
set_option linter.unusedSectionVars false
set_option linter.unusedVariables false
set_option linter.unusedSimpArgs false
namespace Go.Fw
variable [Gl]
def hget : Hp → Nat → Option AObj
  | [], _ => none
  | p :: r, b => if p.1 = b then some p.2 else hget r b
def hset : Hp → Nat → AObj → Hp
  | [], _, _ => []
  | p :: r, b, o => if p.1 = b then (p.1, o) :: r else p :: hset r b o
def hdel : Hp → Nat → Hp
  | [], _ => []
  | p :: r, b => if p.1 = b then r else p :: hdel r b
theorem hget_mem {h : Hp} {b : Nat} {o : AObj} (hg : hget h b = some o) : (b, o) ∈ h := by
  induction h with
  | nil => simp [hget] at hg
  | cons p r ih =>
    simp only [hget] at hg
    split at hg
    · rename_i e
      simp only [Option.some.injEq] at hg
      subst e; subst hg
      simp
    · exact List.mem_cons_of_mem _ (ih hg)
theorem hset_ns (h : Hp) (b : Nat) (o : AObj) : (hset h b o).ns = h.ns := by
  induction h with
  | nil => rfl
  | cons p r ih =>
    simp only [hset]
    split
    · rfl
    · simp [ih]
theorem mem_ns {h : Hp} {b : Nat} {o : AObj} (hm : (b, o) ∈ h) : b ∈ h.ns := List.mem_map.2 ⟨_, hm, rfl⟩
theorem hget_ns {h : Hp} {b : Nat} {o : AObj} (hg : hget h b = some o) : b ∈ h.ns := mem_ns (hget_mem hg)
theorem hset_mem {h : Hp} {b : Nat} {o : AObj} (hn : h.ns.Nodup) {b' : Nat} {o' : AObj} (hm : (b', o') ∈ hset h b o) : (b' = b ∧ o' = o) ∨ (b' ≠ b ∧ (b', o') ∈ h) := by
  induction h with
  | nil => simp [hset] at hm
  | cons p r ih =>
    simp only [Hp.ns_cons, List.nodup_cons] at hn
    simp only [hset] at hm
    split at hm
    · rename_i e
      rcases List.mem_cons.1 hm with h | h
      · simp only [Prod.mk.injEq] at h
        exact .inl ⟨h.1.trans e, h.2⟩
      · refine .inr ⟨fun e' => hn.1 ?_, List.mem_cons_of_mem _ h⟩
        rw [e, ← e']; exact mem_ns h
    · rename_i e
      rcases List.mem_cons.1 hm with h | h
      · subst h
        exact .inr ⟨fun e' => e e', by simp⟩
      · rcases ih hn.2 h with h | h
        · exact .inl h
        · exact .inr ⟨h.1, List.mem_cons_of_mem _ h.2⟩
theorem hdel_ns_sub (h : Hp) (b : Nat) : ∀ x, x ∈ (hdel h b).ns → x ∈ h.ns := by
  induction h with
  | nil => simp [hdel]
  | cons p r ih =>
    intro x hx
    simp only [hdel] at hx
    split at hx
    · simp [hx]
    · simp only [Hp.ns_cons, List.mem_cons] at hx ⊢
      rcases hx with h | h
      · exact .inl h
      · exact .inr (ih x h)
theorem hdel_mem {h : Hp} {b : Nat} (hn : h.ns.Nodup) {b' : Nat} {o' : AObj} (hm : (b', o') ∈ hdel h b) : b' ≠ b ∧ (b', o') ∈ h := by
  induction h with
  | nil => simp [hdel] at hm
  | cons p r ih =>
    simp only [Hp.ns_cons, List.nodup_cons] at hn
    simp only [hdel] at hm
    split at hm
    · rename_i e
      exact ⟨fun e' => hn.1 (by rw [e, ← e']; exact mem_ns hm), List.mem_cons_of_mem _ hm⟩
    · rename_i e
      rcases List.mem_cons.1 hm with h | h
      · subst h
        exact ⟨fun e' => e e', by simp⟩
      · exact ⟨(ih hn.2 h).1, List.mem_cons_of_mem _ (ih hn.2 h).2⟩
theorem hdel_nodup {h : Hp} (b : Nat) (hn : h.ns.Nodup) : (hdel h b).ns.Nodup := by
  induction h with
  | nil => simp [hdel]
  | cons p r ih =>
    simp only [Hp.ns_cons, List.nodup_cons] at hn
    simp only [hdel]
    split
    · exact hn.2
    · simp only [Hp.ns_cons, List.nodup_cons]
      exact ⟨fun hm => hn.1 (hdel_ns_sub r b _ hm), ih hn.2⟩
theorem Own.lt {F : Froz} {h : Hp} {w : World} (ho : Own F h w) {b : Nat} (hb : b ∈ h.ns) : b < w.heap.size := by
  obtain ⟨p, hp, e⟩ := List.mem_map.1 hb
  obtain ⟨x, hx, _⟩ := ho.own p.1 p.2 hp
  rw [← e]
  exact (Array.getElem?_eq_some_iff.1 hx).1
theorem Own.get {F : Froz} {h : Hp} {w : World} (ho : Own F h w) {b : Nat} {o : AObj} (hg : hget h b = some o) : ∃ x, w.heap[b]? = some x ∧ OR F o x := ho.own b o (hget_mem hg)
theorem Own.put {F : Froz} {h : Hp} {w : World} (ho : Own F h w) {b : Nat} {o' : AObj} {x' : Obj} (hb : b ∈ h.ns) (hr : OR F o' x') : Own F (hset h b o') (w.putObj b x') where
  nodup := by rw [hset_ns]; exact ho.nodup
  own := fun b1 o1 hm => by
    rcases hset_mem ho.nodup hm with ⟨rfl, rfl⟩ | ⟨hne, hm⟩
    · exact ⟨x', World.putObj_heap_same (ho.lt hb), hr⟩
    · obtain ⟨x, hx, r⟩ := ho.own b1 o1 hm
      exact ⟨x, by rw [World.putObj_heap_other hne]; exact hx, r⟩
  off := fun b1 hm => by rw [hset_ns] at hm; exact ho.off b1 hm
  gl := ho.gl
  frz := fun b1 o1 hf => by
    have : b1 ≠ b := fun e => by have := ho.off b hb; rw [← e, hf] at this; cases this
    rw [World.putObj_heap_other this]; exact ho.frz b1 o1 hf
theorem Trans.put {F : Froz} {h : Hp} {w : World} {b : Nat} (o' : AObj) (x' : Obj) (hb : b ∈ h.ns) : Trans F h w F (hset h b o') (w.putObj b x') where
  mono := FLe.refl F
  size := by simp
  keep := fun b1 _ hn => World.putObj_heap_other fun e => hn (e ▸ hb)
  names := fun b1 hm => by rw [hset_ns] at hm; exact .inl hm
  fr := fun _ hn => absurd rfl hn
  os := rfl
  tape := rfl
  drn := Nat.le_refl _
  output := rfl
theorem alloc_heap_old (w : World) (o : Obj) {k : Nat} (h : k < w.heap.size) : (w.alloc o).heap[k]? = w.heap[k]? := by
  show (w.heap.push o)[k]? = _
  rw [Array.getElem?_push, if_neg (by omega)]
theorem Own.push {F : Froz} {h : Hp} {w : World} (ho : Own F h w) {o : AObj} {x : Obj} (hr : OR F o x) : Own F ((w.heap.size, o) :: h) (w.alloc x) where
  nodup := by
    simp only [Hp.ns_cons, List.nodup_cons]
    exact ⟨fun hm => by have := ho.lt hm; omega, ho.nodup⟩
  own := fun b1 o1 hm => by
    rcases List.mem_cons.1 hm with e | hm
    · simp only [Prod.mk.injEq] at e
      obtain ⟨rfl, rfl⟩ := e
      exact ⟨x, World.alloc_heap_new w x, hr⟩
    · obtain ⟨y, hy, r⟩ := ho.own b1 o1 hm
      exact ⟨y, by rw [alloc_heap_old _ _ (ho.lt (mem_ns hm))]; exact hy, r⟩
  off := fun b1 hm => by
    simp only [Hp.ns_cons, List.mem_cons] at hm
    rcases hm with rfl | hm
    · cases hF : F w.heap.size with
      | none => rfl
      | some o' => have := (Array.getElem?_eq_some_iff.1 (ho.frz _ _ hF)).1; omega
    · exact ho.off b1 hm
  gl := ho.gl
  frz := fun b1 o1 hf => by
    have hx := ho.frz b1 o1 hf
    rw [alloc_heap_old _ _ (Array.getElem?_eq_some_iff.1 hx).1]; exact hx
theorem Trans.push (F : Froz) (h : Hp) (w : World) (o : AObj) (x : Obj) : Trans F h w F ((w.heap.size, o) :: h) (w.alloc x) where
  mono := FLe.refl F
  size := by show w.heap.size ≤ (w.heap.push x).size; simp
  keep := fun b1 hb _ => alloc_heap_old _ _ hb
  names := fun b1 hm => by
    simp only [Hp.ns_cons, List.mem_cons] at hm
    rcases hm with rfl | hm
    · exact .inr (Nat.le_refl _)
    · exact .inl hm
  fr := fun _ hn => absurd rfl hn
  os := rfl
  tape := rfl
  drn := Nat.le_refl _
  output := rfl
theorem Own.fresh {F : Froz} {h : Hp} {w : World} (ho : Own F h w) : w.heap.size ∉ h.ns := fun hm => by have := ho.lt hm; omega
theorem Own.drawn {F : Froz} {h : Hp} {w : World} (ho : Own F h w) (d : Nat) : Own F h { w with drawn := d } := ⟨ho.nodup, ho.own, ho.off, ho.frz, ho.gl⟩
theorem Trans.drawn (F : Froz) (h : Hp) (w : World) (d : Nat) (hd : w.drawn ≤ d := by simp) : Trans F h w F h { w with drawn := d } :=
  ⟨FLe.refl F, Nat.le_refl _, fun _ _ _ => rfl, fun b hb => .inl hb, fun b hb => absurd rfl hb, rfl, rfl, rfl, hd⟩
theorem Own.sub {F : Froz} {h h' : Hp} {w : World} (ho : Own F h w) (hs : h'.Sublist h) : Own F h' w where
  nodup := ho.nodup.sublist (hs.map _)
  own := fun b o hm => ho.own b o (hs.subset hm)
  off := fun b hm => ho.off b ((hs.map _).subset hm)
  frz := ho.frz
  gl := ho.gl
theorem Trans.sub {F : Froz} {h h' : Hp} {w : World} (hs : h'.Sublist h) : Trans F h w F h' w where
  mono := FLe.refl F
  size := Nat.le_refl _
  keep := fun _ _ _ => rfl
  names := fun b hm => .inl ((hs.map _).subset hm)
  fr := fun _ hn => absurd rfl hn
  os := rfl
  tape := rfl
  drn := Nat.le_refl _
  output := rfl
theorem Own.perm {F : Froz} {h h' : Hp} {w : World} (ho : Own F h w) (hp : h'.Perm h) : Own F h' w where
  nodup := (hp.map _).nodup_iff.2 ho.nodup
  own := fun b o hm => ho.own b o (hp.subset hm)
  off := fun b hm => ho.off b ((hp.map _).subset hm)
  frz := ho.frz
  gl := ho.gl
theorem Trans.perm {F : Froz} {h h' : Hp} {w : World} (hp : h'.Perm h) : Trans F h w F h' w where
  mono := FLe.refl F
  size := Nat.le_refl _
  keep := fun _ _ _ => rfl
  names := fun b hm => .inl ((hp.map _).subset hm)
  fr := fun _ hn => absurd rfl hn
  os := rfl
  tape := rfl
  drn := Nat.le_refl _
  output := rfl
def FAdd (F : Froz) (b : Nat) (x : Obj) : Froz := fun i => if i = b then some x else F i
theorem FAdd_le {F : Froz} {b : Nat} {x : Obj} (hb : F b = none) : FLe F (FAdd F b x) := fun i o hi => by
  unfold FAdd
  have : i ≠ b := fun e => by rw [e, hb] at hi; cases hi
  rw [if_neg this]; exact hi
theorem Own.freeze {F : Froz} {h : Hp} {w : World} (ho : Own F h w) {b : Nat} {o : AObj} {x : Obj} (hm : (b, o) ∈ h) (hx : w.heap[b]? = some x) : Own (FAdd F b x) (hdel h b) w where
  nodup := hdel_nodup b ho.nodup
  own := fun b1 o1 hm1 => by
    obtain ⟨y, hy, r⟩ := ho.own b1 o1 (hdel_mem ho.nodup hm1).2
    exact ⟨y, hy, r.mono (FAdd_le (ho.off b (mem_ns hm)))⟩
  off := fun b1 hm1 => by
    obtain ⟨p, hp, e⟩ := List.mem_map.1 hm1
    have := (hdel_mem (o' := p.2) ho.nodup (by exact hp)).1
    unfold FAdd
    rw [e] at this
    rw [if_neg this]
    exact ho.off b1 (hdel_ns_sub h b b1 hm1)
  gl := FLe.trans ho.gl (FAdd_le (ho.off b (mem_ns hm)))
  frz := fun b1 o1 hf => by
    unfold FAdd at hf
    split at hf
    · rename_i e; simp only [Option.some.injEq] at hf; subst e; subst hf; exact hx
    · exact ho.frz b1 o1 hf
theorem Trans.freeze {F : Froz} {h : Hp} {w : World} {b : Nat} {x : Obj} (hF : F b = none) (hb : b ∈ h.ns) : Trans F h w (FAdd F b x) (hdel h b) w where
  mono := FAdd_le hF
  size := Nat.le_refl _
  keep := fun _ _ _ => rfl
  names := fun b1 hm => .inl (hdel_ns_sub h b b1 hm)
  fr := fun b1 hn => .inl (by
    unfold FAdd at hn
    by_cases e : b1 = b
    · rw [e]; exact hb
    · rw [if_neg e] at hn; exact absurd rfl hn)
  os := rfl
  tape := rfl
  drn := Nat.le_refl _
  output := rfl
theorem add_mk (b o i : Nat) : (⟨b, o, none⟩ : Addr).add i = ⟨b, o + i, none⟩ := by
  unfold Addr.add
  split
  · subst_vars; rfl
  · rfl
theorem add_add (a : Addr) (i j : Nat) : (a.add i).add j = a.add (i + j) := by
  unfold Addr.add
  by_cases hi : i = 0
  · subst hi; simp
  · by_cases hj : j = 0
    · subst hj; simp [hi]
    · simp [hi, hj, Nat.add_assoc]
theorem fcell_cell {F : Froz} {h : Hp} {w : World} (ho : Own F h w) {a : Addr} {v : Value} (hc : fcell F a = some v) : w.cell? a = some v := by
  unfold fcell at hc
  unfold World.cell?
  cases hb : F a.block with
  | none => simp [hb] at hc
  | some o => rw [ho.frz _ _ hb]; rw [hb] at hc; cases o <;> simp_all
theorem cell_of_block {w : World} {b o : Nat} {c : Array Value} {T : TypeId} {fz : Nat × Nat} (hb : w.heap[b]? = some (.cells c T fz)) : w.cell? ⟨b, o, none⟩ = c[o]? := by
  unfold World.cell?
  simp [hb]
theorem run_load_cell {P : Program} {w : World} {a : Addr} {v : Value} (h : w.cell? a = some v) : (load a).run P w = .ok v w := by
  simp [load, Sem.run, h]
theorem run_loadCellsFrom {P : Program} {w : World} {a : Addr} (g : Nat → Value) : ∀ (k i : Nat) (acc : Array Value), (∀ j, i ≤ j → j < i + k → w.cell? (a.add j) = some (g j)) →
    (loadCellsFrom a i k acc).run P w = .ok (acc ++ ((List.range' i k).map g).toArray) w
  | 0, i, acc, _ => by simp [loadCellsFrom, Sem.run_pure]
  | k + 1, i, acc, h => by
    simp only [loadCellsFrom, Sem.run_bind, run_load_cell (h i (Nat.le_refl _) (by omega)), Result.andThen]
    rw [run_loadCellsFrom g k (i + 1) _ (fun j h1 h2 => h j (by omega) (by omega))]
    simp [List.range'_succ]
theorem run_loadCells {P : Program} {w : World} {a : Addr} {k : Nat} (g : Nat → Value) (h : ∀ j, j < k → w.cell? (a.add j) = some (g j)) :
    (loadCells a k).run P w = .ok ((List.range k).map g).toArray w := by
  unfold loadCells
  rw [run_loadCellsFrom g k 0 #[] (fun j _ h2 => h j (by omega)), List.range_eq_range']
  simp
def putA (c : Array Value) (o : Nat) : List Value → Array Value
  | [] => c
  | v :: r => putA (c.setIfInBounds o v) (o + 1) r
@[simp] theorem putA_size (c : Array Value) (o : Nat) (vs : List Value) : (putA c o vs).size = c.size := by
  induction vs generalizing c o with
  | nil => rfl
  | cons v r ih => simp [putA, ih]
theorem putA_get (c : Array Value) (o : Nat) (vs : List Value) (i : Nat) : (putA c o vs)[i]? = if o ≤ i ∧ i < o + vs.length ∧ i < c.size then vs[i - o]? else c[i]? := by
  induction vs generalizing c o with
  | nil => simp [putA]; intro h1 h2; omega
  | cons v r ih =>
    simp only [putA, ih, List.length_cons, Array.size_setIfInBounds, Array.getElem?_setIfInBounds]
    by_cases h1 : o + 1 ≤ i ∧ i < o + 1 + r.length ∧ i < c.size
    · rw [if_pos h1, if_pos (by omega)]
      obtain ⟨k, hk⟩ : ∃ k, i - o = k + 1 := ⟨i - o - 1, by omega⟩
      rw [hk, List.getElem?_cons_succ]
      congr 1
      omega
    · rw [if_neg h1]
      by_cases h2 : o = i
      · subst h2
        by_cases h3 : o < c.size
        · simp [h3]
        · simp [h3]
      · rw [if_neg h2, if_neg (by omega)]
def leafX : Value → Bool
  | .agg _ | .tuple _ => false
  | _ => true
theorem putObj_same {w : World} {b : Nat} {x : Obj} (h : w.heap[b]? = some x) : w.putObj b x = w := by
  unfold World.putObj
  have : w.heap.setIfInBounds b x = w.heap := by
    apply Array.ext_getElem?
    intro i
    rw [Array.getElem?_setIfInBounds]
    split
    · subst_vars
      rw [h]
      split <;> first | rfl | (rename_i hn; exact absurd (Array.getElem?_eq_some_iff.1 h).1 hn)
    · rfl
  rw [this]
theorem putObj_putObj (w : World) (b : Nat) (x y : Obj) : (w.putObj b x).putObj b y = w.putObj b y := by
  unfold World.putObj
  simp [Array.setIfInBounds_setIfInBounds]
theorem setCell_put {w : World} {b o : Nat} {c : Array Value} {T : TypeId} {fz : Nat × Nat} (hb : w.heap[b]? = some (.cells c T fz)) (v : Value) : w.setCell ⟨b, o, none⟩ v = w.putObj b (.cells (c.setIfInBounds o v) T fz) := by
  unfold World.setCell World.putObj
  congr 1
  apply Array.ext_getElem?
  intro i
  rw [Array.getElem?_modify, Array.getElem?_setIfInBounds]
  have hlt := (Array.getElem?_eq_some_iff.1 hb).1
  by_cases h : b = i
  · subst h
    rw [if_pos rfl, hb]
    simp [hlt]
  · simp [h]
theorem run_storeCells {P : Program} {b : Nat} {T : TypeId} {fz : Nat × Nat} : ∀ (vs : List Value) (w : World) (c : Array Value) (o i : Nat), w.heap[b]? = some (.cells c T fz) →
    o + i + vs.length ≤ c.size → (FzOk T c.size fz) → (∀ v ∈ vs, leafX v = true) →
    (storeCells ⟨b, o, none⟩ vs i).run P w = .ok () (w.putObj b (.cells (putA c (o + i) vs) T fz))
  | [], w, c, o, i, hb, _, _, _ => by simp [storeCells, Sem.run_pure, putA, putObj_same hb]
  | v :: r, w, c, o, i, hb, hl, hz, hv => by
    simp only [List.length_cons] at hl
    have hcell : w.cell? ((⟨b, o, none⟩ : Addr).add i) = some (c[o + i]'(by omega)) := by
      rw [add_mk, cell_of_block hb]; simp
    have hfr : w.frozen? ((⟨b, o, none⟩ : Addr).add i) = false := by
      rw [add_mk]
      unfold World.frozen?
      simp only [hb]
      have := hz (o + i) (.inl (by omega))
      obtain ⟨f1, f2⟩ := fz
      simp only at this ⊢
      simp only [Bool.and_eq_false_imp, decide_eq_true_eq, decide_eq_false_iff_not]
      intro h1 h2
      exact this ⟨h1, h2⟩
    have hst : (store ((⟨b, o, none⟩ : Addr).add i) v).run P w = .ok () (w.setCell ((⟨b, o, none⟩ : Addr).add i) v) := by
      have hl := hv v (by simp)
      cases v <;> simp_all [store, Sem.run, leafX]
    simp only [storeCells, Sem.run_bind, hst, Result.andThen]
    rw [add_mk, setCell_put hb]
    have hb' : (w.putObj b (.cells (c.setIfInBounds (o + i) v) T fz)).heap[b]? = some (.cells (c.setIfInBounds (o + i) v) T fz) := World.putObj_heap_same (Array.getElem?_eq_some_iff.1 hb).1
    rw [run_storeCells r _ _ o (i + 1) hb' (by simp; omega) (by simpa using hz) (fun x hx => hv x (List.mem_cons_of_mem _ hx)), putObj_putObj]
    rfl
end Go.Fw
