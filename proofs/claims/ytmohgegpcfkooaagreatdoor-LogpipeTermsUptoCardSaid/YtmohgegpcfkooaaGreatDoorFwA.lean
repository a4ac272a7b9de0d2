/- A part of the proof: FwA -/
import Derived.RangeFuncIn
import Derived.RangeFuncLeaves
import Derived.CallsIn
set_option linter.all false
set_option linter.unusedSectionVars false
set_option linter.unusedVariables false
set_option linter.unusedSimpArgs false
namespace Go.Fw
inductive V where
  | int (k : IntKind) (n : Int)
  | bool (b : Bool)
  | str (s : List UInt8)
  | flt (k : FloatKind) (bits : Nat)
  | nilptr
  | ptr (b o : Nat)
  | fptr (cs : List V) (o : Nat)
  | nilslice
  | slice (b o len cap : Nat)
  | fslice (cs : List V) (len : Nat)
  | eslice
  | nilmap
  | map (b : Nat)
  | nilfunc
  | clo (f : FuncId) (caps : List V)
  | yield (l : Nat)
  | niliface
  | iface (t : TypeId) (v : V)
  | agg (cs : List V)
  | tup (cs : List V)
  deriving Inhabited
abbrev Froz := Nat → Option Obj
def fcell (F : Froz) (a : Addr) : Option Value :=
  match F a.block with
  | some (.cells c _ _) => if a.spot.isSome then none else c[a.off]?
  | _ => none
def FLe (F F' : Froz) : Prop := ∀ b o, F b = some o → F' b = some o
theorem FLe.refl (F : Froz) : FLe F F := fun _ _ h => h
theorem FLe.trans {F F' F'' : Froz} (h : FLe F F') (h' : FLe F' F'') : FLe F F'' := fun b o hb => h' b o (h b o hb)
theorem fcell_mono {F F' : Froz} (h : FLe F F') {a : Addr} {v : Value} (hv : fcell F a = some v) : fcell F' a = some v := by
  unfold fcell at hv ⊢
  cases hb : F a.block with
  | none => simp [hb] at hv
  | some o => rw [h _ _ hb]; rw [hb] at hv; exact hv
inductive VR (F : Froz) : V → Value → Prop where
  | int (k : IntKind) (n : Int) : VR F (.int k n) (.int k n)
  | bool (b : Bool) : VR F (.bool b) (.bool b)
  | str (s : List UInt8) : VR F (.str s) (.string ⟨s.toArray⟩)
  | flt (k : FloatKind) (b : Nat) : VR F (.flt k b) (.float k b)
  | nilptr : VR F .nilptr (.pointer none)
  | ptr (b o : Nat) : VR F (.ptr b o) (.pointer (some ⟨b, o, none⟩))
  | fptr (cs : List V) (o : Nat) (a : Addr) (g : Nat → Value) (h1 : ∀ i, i < cs.length → fcell F (a.add i) = some (g i))
      (h2 : ∀ i v, cs[i]? = some v → VR F v (g i)) : VR F (.fptr cs o) (.pointer (some (a.add o)))
  | nilslice : VR F .nilslice (.slice none 0 0)
  | slice (b o len cap : Nat) (hl : len ≤ cap) : VR F (.slice b o len cap) (.slice (some ⟨b, o, none⟩) len cap)
  | fslice (cs : List V) (len : Nat) (a : Addr) (cap : Nat) (g : Nat → Value) (hl : len ≤ cap) (h1 : ∀ i, i < cs.length → fcell F (a.add i) = some (g i))
      (h2 : ∀ i v, cs[i]? = some v → VR F v (g i)) : VR F (.fslice cs len) (.slice (some a) len cap)
  | fnil : VR F (.fslice [] 0) (.slice none 0 0)
  | eslice (a : Option Addr) : VR F .eslice (.slice a 0 0)
  | nilmap : VR F .nilmap (.map none)
  | map (b : Nat) : VR F (.map b) (.map (some b))
  | nilfunc : VR F .nilfunc .nilFunc
  | clo (f : FuncId) (cs : List V) (vs : Array Value) (hl : vs.size = cs.length) (h2 : ∀ i v, cs[i]? = some v → VR F v (vs.getD i undef)) : VR F (.clo f cs) (.func (.func f) #[] vs)
  | yield (l : Nat) : VR F (.yield l) (.func (.yield l) #[] #[])
  | niliface : VR F .niliface .nilIface
  | iface (t : TypeId) (v : V) (x : Value) (h : VR F v x) : VR F (.iface t v) (.iface t x)
  | agg (cs : List V) (vs : Array Value) (hl : vs.size = cs.length) (h2 : ∀ i v, cs[i]? = some v → VR F v (vs.getD i undef)) : VR F (.agg cs) (.agg vs)
  | tup (cs : List V) (vs : Array Value) (hl : vs.size = cs.length) (h2 : ∀ i v, cs[i]? = some v → VR F v (vs.getD i undef)) : VR F (.tup cs) (.tuple vs)
theorem VR.mono {F F' : Froz} (hF : FLe F F') {v : V} {x : Value} (h : VR F v x) : VR F' v x := by
  induction h with
  | int k n => exact .int k n
  | bool b => exact .bool b
  | str s => exact .str s
  | flt k b => exact .flt k b
  | nilptr => exact .nilptr
  | ptr b o => exact .ptr b o
  | fptr cs o a g h1 h2 ih => exact .fptr cs o a g (fun i hi => fcell_mono hF (h1 i hi)) ih
  | nilslice => exact .nilslice
  | slice b o len cap hl => exact .slice b o len cap hl
  | fslice cs len a cap g hl h1 h2 ih => exact .fslice cs len a cap g hl (fun i hi => fcell_mono hF (h1 i hi)) ih
  | fnil => exact .fnil
  | eslice a => exact .eslice a
  | nilmap => exact .nilmap
  | map b => exact .map b
  | nilfunc => exact .nilfunc
  | clo f cs vs hl h2 ih => exact .clo f cs vs hl ih
  | yield l => exact .yield l
  | niliface => exact .niliface
  | iface t v x h ih => exact .iface t v x ih
  | agg cs vs hl h2 ih => exact .agg cs vs hl ih
  | tup cs vs hl h2 ih => exact .tup cs vs hl ih
theorem VR.int_inv {F : Froz} {k : IntKind} {n : Int} {x : Value} (h : VR F (.int k n) x) : x = .int k n := by cases h; rfl
theorem VR.bool_inv {F : Froz} {b : Bool} {x : Value} (h : VR F (.bool b) x) : x = .bool b := by cases h; rfl
theorem VR.str_inv {F : Froz} {s : List UInt8} {x : Value} (h : VR F (.str s) x) : x = .string ⟨s.toArray⟩ := by cases h; rfl
theorem VR.nilptr_inv {F : Froz} {x : Value} (h : VR F .nilptr x) : x = .pointer none := by cases h; rfl
theorem VR.ptr_inv {F : Froz} {b o : Nat} {x : Value} (h : VR F (.ptr b o) x) : x = .pointer (some ⟨b, o, none⟩) := by cases h; rfl
theorem VR.nilslice_inv {F : Froz} {x : Value} (h : VR F .nilslice x) : x = .slice none 0 0 := by cases h; rfl
theorem VR.slice_inv {F : Froz} {b o l c : Nat} {x : Value} (h : VR F (.slice b o l c) x) : x = .slice (some ⟨b, o, none⟩) l c := by cases h; rfl
theorem VR.slice_le {F : Froz} {b o l c : Nat} {x : Value} (h : VR F (.slice b o l c) x) : l ≤ c := by cases h; assumption
theorem VR.nilmap_inv {F : Froz} {x : Value} (h : VR F .nilmap x) : x = .map none := by cases h; rfl
theorem VR.map_inv {F : Froz} {b : Nat} {x : Value} (h : VR F (.map b) x) : x = .map (some b) := by cases h; rfl
theorem VR.nilfunc_inv {F : Froz} {x : Value} (h : VR F .nilfunc x) : x = .nilFunc := by cases h; rfl
theorem VR.yield_inv {F : Froz} {l : Nat} {x : Value} (h : VR F (.yield l) x) : x = .func (.yield l) #[] #[] := by cases h; rfl
def VRs (F : Froz) (cs : List V) (vs : Array Value) : Prop := vs.size = cs.length ∧ ∀ i v, cs[i]? = some v → VR F v (vs.getD i undef)
theorem VR.agg_inv {F : Froz} {cs : List V} {x : Value} (h : VR F (.agg cs) x) : ∃ vs, x = .agg vs ∧ VRs F cs vs := by cases h; exact ⟨_, rfl, by assumption, by assumption⟩
theorem VR.tup_inv {F : Froz} {cs : List V} {x : Value} (h : VR F (.tup cs) x) : ∃ vs, x = .tuple vs ∧ VRs F cs vs := by cases h; exact ⟨_, rfl, by assumption, by assumption⟩
theorem VR.clo_inv {F : Froz} {f : FuncId} {cs : List V} {x : Value} (h : VR F (.clo f cs) x) : ∃ vs, x = .func (.func f) #[] vs ∧ VRs F cs vs := by cases h; exact ⟨_, rfl, by assumption, by assumption⟩
theorem VR.fptr_inv {F : Froz} {cs : List V} {o : Nat} {x : Value} (h : VR F (.fptr cs o) x) : ∃ (a : Addr) (g : Nat → Value), x = .pointer (some (a.add o)) ∧
    (∀ i, i < cs.length → fcell F (a.add i) = some (g i)) ∧ ∀ i v, cs[i]? = some v → VR F v (g i) := by
  cases h with
  | fptr _ _ a g h1 h2 => exact ⟨a, g, rfl, h1, h2⟩
theorem VR.fslice_inv {F : Froz} {cs : List V} {len : Nat} {x : Value} (h : VR F (.fslice cs len) x) : (cs = [] ∧ len = 0 ∧ x = .slice none 0 0) ∨ ∃ (a : Addr) (cap : Nat) (g : Nat → Value), x = .slice (some a) len cap ∧ len ≤ cap ∧
    (∀ i, i < cs.length → fcell F (a.add i) = some (g i)) ∧ ∀ i v, cs[i]? = some v → VR F v (g i) := by
  cases h with
  | fslice _ _ a cap g hl h1 h2 => exact .inr ⟨a, cap, g, rfl, hl, h1, h2⟩
  | fnil => exact .inl ⟨rfl, rfl, rfl⟩
theorem VR.eslice_inv {F : Froz} {x : Value} (h : VR F .eslice x) : ∃ a, x = .slice a 0 0 := by cases h; exact ⟨_, rfl⟩
theorem VR.iface_inv {F : Froz} {t : TypeId} {v : V} {x : Value} (h : VR F (.iface t v) x) : ∃ y, x = .iface t y ∧ VR F v y := by
  cases h with
  | iface _ _ y h => exact ⟨y, rfl, h⟩
theorem VR.of_agg {F : Froz} {cs : List V} {vs : Array Value} (h : VRs F cs vs) : VR F (.agg cs) (.agg vs) := .agg cs vs h.1 h.2
theorem VR.of_tup {F : Froz} {cs : List V} {vs : Array Value} (h : VRs F cs vs) : VR F (.tup cs) (.tuple vs) := .tup cs vs h.1 h.2
theorem VR.of_clo {F : Froz} {f : FuncId} {cs : List V} {vs : Array Value} (h : VRs F cs vs) : VR F (.clo f cs) (.func (.func f) #[] vs) := .clo f cs vs h.1 h.2
theorem VRs.nil (F : Froz) : VRs F [] #[] := ⟨rfl, fun i v h => by simp at h⟩
abbrev Fr := Nat → Option V
def upd (t : Fr) (d : Nat) (v : V) : Fr := fun i => if i = d then some v else t i
def updO (t : Fr) (d : Option Nat) (v : V) : Fr := match d with | some d => upd t d v | none => t
structure FrR (F : Froz) (n : Nat) (t : Fr) (tm : Array Value) : Prop where
  size : tm.size = n
  at_ : ∀ i v, t i = some v → ∃ x, tm[i]? = some x ∧ VR F v x
theorem FrR.mono {F F' : Froz} (hF : FLe F F') {n : Nat} {t : Fr} {tm : Array Value} (h : FrR F n t tm) : FrR F' n t tm :=
  ⟨h.size, fun i v hv => let ⟨x, hx, r⟩ := h.at_ i v hv; ⟨x, hx, r.mono hF⟩⟩
inductive AObj where
  | cells (T : TypeId) (cs : List V) (n : Nat)
  | map (es : List (V × V))
  | striter (s : List UInt8) (pos : Nat)
  | loop (st : LoopState) (pend : Option Code) (n : Nat) (t : Nat → Option V) (ps : Array Tmp) (asg body : Code) (db : Nat)
  | deferred
structure FzOk (T : TypeId) (n : Nat) (fz : Nat × Nat) : Prop where
  out : ∀ i, i < n ∨ (i = n ∧ T ≠ 5) → ¬ (fz.1 ≤ i ∧ i < fz.2)
  le : fz.1 ≤ fz.2
instance (T : TypeId) (n : Nat) (fz : Nat × Nat) : CoeFun (FzOk T n fz) (fun _ => ∀ i, i < n ∨ (i = n ∧ T ≠ 5) → ¬ (fz.1 ≤ i ∧ i < fz.2)) := ⟨FzOk.out⟩
theorem FzOk.zero (T : TypeId) (n : Nat) : FzOk T n (0, 0) := ⟨fun i _ h => by simp at h, Nat.le_refl _⟩
inductive OR (F : Froz) : AObj → Obj → Prop where
  | cells (T : TypeId) (cs : List V) (c : Array Value) (fz : Nat × Nat) (hl : cs.length ≤ c.size) (hz : FzOk T c.size fz)
      (h : ∀ i v, cs[i]? = some v → VR F v (c.getD i undef)) : OR F (.cells T cs c.size) (.cells c T fz)
  | map (es : List (V × V)) (xs : Array MapEntry) (clock : Nat) (hl : xs.size = es.length) (h : ∀ (i : Nat) (e : V × V) (x : MapEntry), es[i]? = some e → xs[i]? = some x → VR F e.1 x.key ∧ VR F e.2 x.val)
      (hb : ∀ (i : Nat) (x : MapEntry), xs[i]? = some x → x.born < clock) (hd : ∀ (i j : Nat) (x y : MapEntry), xs[i]? = some x → xs[j]? = some y → x.born = y.born → i = j) : OR F (.map es) (.map xs clock)
  | striter (s : List UInt8) (pos : Nat) : OR F (.striter s pos) (.stringIter ⟨s.toArray⟩ pos)
  | loop (n : Nat) (t : Nat → Option V) (L : Loop) (h : FrR F n t L.tmps) : OR F (.loop L.state L.pending n t L.params L.assign L.body L.defers) (.loop L)
  | deferred : OR F .deferred (.deferred (some []))
theorem OR.mono {F F' : Froz} (hF : FLe F F') {o : AObj} {x : Obj} (h : OR F o x) : OR F' o x := by
  cases h with
  | cells T cs c fz hl hz h => exact .cells T cs c fz hl hz fun i v hv => (h i v hv).mono hF
  | map es xs clock hl h hb hd => exact .map es xs clock hl (fun i e x he hx => ⟨(h i e x he hx).1.mono hF, (h i e x he hx).2.mono hF⟩) hb hd
  | striter s pos => exact .striter s pos
  | loop n t L h => exact .loop n t L (h.mono hF)
  | deferred => exact .deferred
abbrev Hp := List (Nat × AObj)
def Hp.ns (h : Hp) : List Nat := h.map Prod.fst
@[simp] theorem Hp.ns_nil : Hp.ns [] = [] := rfl
@[simp] theorem Hp.ns_cons (p : Nat × AObj) (h : Hp) : Hp.ns (p :: h) = p.1 :: Hp.ns h := rfl
@[simp] theorem Hp.ns_append (a b : Hp) : Hp.ns (a ++ b) = Hp.ns a ++ Hp.ns b := by simp [Hp.ns]
class Gl where
  g : Froz
structure Own [Gl] (F : Froz) (h : Hp) (w : World) : Prop where
  nodup : h.ns.Nodup
  own : ∀ b o, (b, o) ∈ h → ∃ x, w.heap[b]? = some x ∧ OR F o x
  off : ∀ b, b ∈ h.ns → F b = none
  frz : ∀ b o, F b = some o → w.heap[b]? = some o
  gl : FLe Gl.g F
structure Trans (F : Froz) (h : Hp) (w : World) (F' : Froz) (h' : Hp) (w' : World) : Prop where
  mono : FLe F F'
  size : w.heap.size ≤ w'.heap.size
  keep : ∀ b, b < w.heap.size → b ∉ h.ns → w'.heap[b]? = w.heap[b]?
  names : ∀ b, b ∈ h'.ns → b ∈ h.ns ∨ w.heap.size ≤ b
  fr : ∀ b, F' b ≠ F b → b ∈ h.ns ∨ w.heap.size ≤ b
  os : w'.os = w.os
  tape : w'.tape = w.tape
  output : w'.output = w.output
  drn : w.drawn ≤ w'.drawn
theorem Trans.refl (F : Froz) (h : Hp) (w : World) : Trans F h w F h w :=
  ⟨FLe.refl F, Nat.le_refl _, fun _ _ _ => rfl, fun b hb => .inl hb, fun b hb => absurd rfl hb, rfl, rfl, rfl, Nat.le_refl _⟩
theorem Trans.trans {F F1 F2 : Froz} {h h1 h2 : Hp} {w w1 w2 : World} (a : Trans F h w F1 h1 w1) (b : Trans F1 h1 w1 F2 h2 w2) : Trans F h w F2 h2 w2 where
  mono := a.mono.trans b.mono
  size := Nat.le_trans a.size b.size
  keep := fun i hi hn => by
    have h1' : i ∉ h1.ns := fun hm => by rcases a.names i hm with h | h; exact hn h; omega
    rw [b.keep i (Nat.lt_of_lt_of_le hi a.size) h1', a.keep i hi hn]
  names := fun i hi => by
    rcases b.names i hi with h | h
    · exact a.names i h
    · exact .inr (Nat.le_trans a.size h)
  fr := fun i hi => by
    by_cases h1' : F1 i = F i
    · rw [← h1'] at hi
      rcases b.fr i hi with h | h
      · exact a.names i h
      · exact .inr (Nat.le_trans a.size h)
    · exact a.fr i h1'
  os := b.os.trans a.os
  tape := b.tape.trans a.tape
  drn := Nat.le_trans a.drn b.drn
  output := b.output.trans a.output
theorem FrR.upd {F : Froz} {n : Nat} {t : Fr} {tm : Array Value} (h : FrR F n t tm) {d : Nat} (hd : d < n) {v : V} {x : Value} (hv : VR F v x) : FrR F n (upd t d v) (tm.setIfInBounds d x) where
  size := by simp [h.size]
  at_ := fun i u hu => by
    unfold Fw.upd at hu
    by_cases hi : i = d
    · subst hi
      simp only [if_true, Option.some.injEq] at hu
      subst hu
      exact ⟨x, by rw [Array.getElem?_setIfInBounds]; simp [h.size, hd], hv⟩
    · rw [if_neg hi] at hu
      obtain ⟨y, hy, r⟩ := h.at_ i u hu
      exact ⟨y, by rw [Array.getElem?_setIfInBounds, if_neg (Ne.symm hi)]; exact hy, r⟩
def Fr.sub (t t' : Fr) : Prop := ∀ i v, t' i = some v → t i = some v
theorem FrR.sub {F : Froz} {n : Nat} {t t' : Fr} {tm : Array Value} (h : FrR F n t tm) (hs : Fr.sub t t') : FrR F n t' tm :=
  ⟨h.size, fun i v hv => h.at_ i v (hs i v hv)⟩
def fr0 : Fr := fun _ => none
def frL : List (Nat × V) → Fr
  | [] => fr0
  | (i, v) :: r => upd (frL r) i v
end Go.Fw
