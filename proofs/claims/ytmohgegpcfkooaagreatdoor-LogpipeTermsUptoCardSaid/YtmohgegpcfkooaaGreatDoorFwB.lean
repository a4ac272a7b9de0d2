/- A part of the proof: FwB -/
import Derived.Test.YtmohgegpcfkooaaGreatDoorFwA
import Derived.RangeFuncRecord
import Derived.RangeFuncCalls
set_option linter.all false
set_option linter.unusedSectionVars false
set_option linter.unusedVariables false
set_option linter.unusedSimpArgs false
namespace Go.Fw
variable [Gl]
def FW (ρ : Option Nat) : Fence := { Fence.wide with round := ρ }
@[simp] theorem FW_round (ρ : Option Nat) : (FW ρ).round = ρ := rfl
theorem FW_fn (ρ : Option Nat) (f : FuncId) : (FW ρ).fn f := trivial
theorem FW_depth (ρ : Option Nat) (n : Nat) : (FW ρ).depth.isSome = true → 1 ≤ n := fun h => by simp [FW, Fence.wide] at h
theorem callsIn_FW {ρ ρ' : Option Nat} {P : Program} {f : FuncId} {args : Array Value} {w : World} {R : Ending → World → Prop} (h : CallsIn (FW ρ) 0 P f args w R) : CallsIn (FW ρ') 0 P f args w R := h
def mks (dl : List Nat) : List Deferred := dl.map fun r => { target := .collected r, args := #[] }
abbrev Po := Exit → Fr → Hp → List Nat → Prop
def Post (F : Froz) (h : Hp) (w : World) (n : Nat) (Q : Po) : Exit → Act → World → Prop := fun e a' w' =>
  ∃ t' h' dl' F', Q e t' h' dl' ∧ Own F' h' w' ∧ FrR F' n t' a'.tmps ∧ a'.defers = mks dl' ∧ Trans F h w F' h' w'
theorem Post.mono {F : Froz} {h : Hp} {w : World} {n : Nat} {Q Q' : Po} (hq : ∀ e t h dl, Q e t h dl → Q' e t h dl) {e : Exit} {a : Act} {w' : World} (hp : Post F h w n Q e a w') : Post F h w n Q' e a w' := by
  obtain ⟨t', h', dl', F', q, r⟩ := hp
  exact ⟨t', h', dl', F', hq _ _ _ _ q, r⟩
theorem Post.from {F F1 : Froz} {h h1 : Hp} {w w1 : World} {n : Nat} {Q : Po} (tr : Trans F h w F1 h1 w1) {e : Exit} {a : Act} {w' : World} (hp : Post F1 h1 w1 n Q e a w') : Post F h w n Q e a w' := by
  obtain ⟨t', h', dl', F', q, o, f, d, tr'⟩ := hp
  exact ⟨t', h', dl', F', q, o, f, d, tr.trans tr'⟩
def WC (P : Program) (ρ : Option Nat) (n : Nat) (c : Code) (t : Fr) (h : Hp) (dl : List Nat) (Q : Po) : Prop :=
  ∀ F w tm, Own F h w → FrR F n t tm → c.wpIn (FW ρ) 0 P (Post F h w n Q) ⟨tm, mks dl⟩ w
section rules
variable {P : Program} {ρ : Option Nat} {n : Nat} {t : Fr} {h : Hp} {dl : List Nat} {Q : Po}
theorem WC.mono {c : Code} {Q' : Po} (hw : WC P ρ n c t h dl Q) (hq : ∀ e t h dl, Q e t h dl → Q' e t h dl) : WC P ρ n c t h dl Q' :=
  fun F w tm ho hf => wpIn_mono (hw F w tm ho hf) fun _ _ _ => Post.mono hq
theorem WC.skip (hq : Q .normal t h dl) : WC P ρ n .skip t h dl Q :=
  fun F w tm ho hf => wpIn_skip ⟨t, h, dl, F, hq, ho, hf, rfl, Trans.refl _ _ _⟩
theorem WC.label {l : Nat} (hq : Q .normal t h dl) : WC P ρ n (.label l) t h dl Q :=
  fun F w tm ho hf => wpIn_label ⟨t, h, dl, F, hq, ho, hf, rfl, Trans.refl _ _ _⟩
theorem WC.exit {id : Nat} (hq : Q (.exit id) t h dl) : WC P ρ n (.exit id) t h dl Q :=
  fun F w tm ho hf => wpIn_exit ⟨t, h, dl, F, hq, ho, hf, rfl, Trans.refl _ _ _⟩
theorem WC.ret (hq : Q .ret t h dl) : WC P ρ n .ret t h dl Q :=
  fun F w tm ho hf => wpIn_ret ⟨t, h, dl, F, hq, ho, hf, rfl, Trans.refl _ _ _⟩
def thn (K : Fr → Hp → List Nat → Prop) (Q : Po) : Po
  | .normal, t, h, dl => K t h dl
  | e, t, h, dl => Q e t h dl
theorem WC.seq {x y : Code} (hw : WC P ρ n x t h dl (thn (fun t h dl => WC P ρ n y t h dl Q) Q)) : WC P ρ n (.seq x y) t h dl Q := by
  intro F w tm ho hf
  refine wpIn_seq (wpIn_mono (hw F w tm ho hf) fun e a w1 hp => ?_)
  obtain ⟨t', h', dl', F', q, o, f, d, tr⟩ := hp
  cases e with
  | normal =>
    obtain ⟨tm', ds'⟩ := a
    simp only at d f
    subst d
    exact wpIn_mono (q F' w1 tm' o f) fun _ _ _ => Post.from tr
  | exit id => exact ⟨t', h', dl', F', q, o, f, d, tr⟩
  | goto l => exact ⟨t', h', dl', F', q, o, f, d, tr⟩
  | ret => exact ⟨t', h', dl', F', q, o, f, d, tr⟩
  | panic ch => exact ⟨t', h', dl', F', q, o, f, d, tr⟩
  | outgrown => exact ⟨t', h', dl', F', q, o, f, d, tr⟩
theorem WC.seq_k {x y : Code} (hw : ∀ K : Fr → Hp → List Nat → Prop, (∀ t h dl, WC P ρ n y t h dl Q → K t h dl) → WC P ρ n x t h dl (thn K Q)) : WC P ρ n (.seq x y) t h dl Q :=
  WC.seq (hw _ fun _ _ _ h => h)
def blk (id : Nat) (Q : Po) : Po
  | .exit id', t, h, dl => if id' = id then Q .normal t h dl else Q (.exit id') t h dl
  | e, t, h, dl => Q e t h dl
theorem WC.block {id : Nat} {c : Code} (hw : WC P ρ n c t h dl (blk id Q)) : WC P ρ n (.block id c) t h dl Q := by
  intro F w tm ho hf
  refine wpIn_block (wpIn_mono (hw F w tm ho hf) fun e a w1 hp => ?_)
  obtain ⟨t', h', dl', F', q, o, f, d, tr⟩ := hp
  cases e with
  | exit id' =>
    simp only [blk] at q
    simp only [Exit.inBlock]
    by_cases hid : id' = id
    · rw [if_pos hid] at q ⊢; exact ⟨t', h', dl', F', q, o, f, d, tr⟩
    · rw [if_neg hid] at q ⊢; exact ⟨t', h', dl', F', q, o, f, d, tr⟩
  | normal => exact ⟨t', h', dl', F', q, o, f, d, tr⟩
  | goto l => exact ⟨t', h', dl', F', q, o, f, d, tr⟩
  | ret => exact ⟨t', h', dl', F', q, o, f, d, tr⟩
  | panic ch => exact ⟨t', h', dl', F', q, o, f, d, tr⟩
  | outgrown => exact ⟨t', h', dl', F', q, o, f, d, tr⟩
def ofLeaf : Value → Option V
  | .int k n => some (.int k n)
  | .bool b => some (.bool b)
  | .string s => some (.str s.data.toList)
  | .float k b => some (.flt k b)
  | .pointer none => some .nilptr
  | .slice none 0 0 => some .nilslice
  | .map none => some .nilmap
  | .nilFunc => some .nilfunc
  | .nilIface => some .niliface
  | _ => none
def ofLeaves : List Value → Option (List V)
  | [] => some []
  | x :: r => match ofLeaf x, ofLeaves r with
    | some v, some vs => some (v :: vs)
    | _, _ => none
def ofConst : Value → Option V
  | .agg cs => (ofLeaves cs.toList).map .agg
  | .tuple cs => (ofLeaves cs.toList).map .tup
  | x => ofLeaf x
theorem ofLeaf_r {F : Froz} {x : Value} {v : V} (hx : ofLeaf x = some v) : VR F v x := by
  cases x with
  | int k n => simp only [ofLeaf, Option.some.injEq] at hx; subst hx; exact .int k n
  | bool b => simp only [ofLeaf, Option.some.injEq] at hx; subst hx; exact .bool b
  | string s =>
    simp only [ofLeaf, Option.some.injEq] at hx; subst hx
    obtain ⟨d⟩ := s
    have := VR.str (F := F) d.toList
    simpa using this
  | float k b => simp only [ofLeaf, Option.some.injEq] at hx; subst hx; exact .flt k b
  | pointer a => cases a with
    | none => simp only [ofLeaf, Option.some.injEq] at hx; subst hx; exact .nilptr
    | some a => simp [ofLeaf] at hx
  | slice a l c =>
    cases a with
    | none =>
      cases l with
      | zero => cases c with
        | zero => simp only [ofLeaf, Option.some.injEq] at hx; subst hx; exact .nilslice
        | succ c => simp [ofLeaf] at hx
      | succ l => simp [ofLeaf] at hx
    | some a => simp [ofLeaf] at hx
  | map r => cases r with
    | none => simp only [ofLeaf, Option.some.injEq] at hx; subst hx; exact .nilmap
    | some a => simp [ofLeaf] at hx
  | nilFunc => simp only [ofLeaf, Option.some.injEq] at hx; subst hx; exact .nilfunc
  | nilIface => simp only [ofLeaf, Option.some.injEq] at hx; subst hx; exact .niliface
  | _ => simp [ofLeaf] at hx
theorem ofLeaves_r {F : Froz} : ∀ {xs : List Value} {vs : List V}, ofLeaves xs = some vs → vs.length = xs.length ∧ ∀ i v, vs[i]? = some v → VR F v (xs.getD i undef)
  | [], vs, h => by simp only [ofLeaves, Option.some.injEq] at h; subst h; simp
  | x :: r, vs, h => by
    simp only [ofLeaves] at h
    split at h
    · rename_i v vs' e1 e2
      simp only [Option.some.injEq] at h
      subst h
      obtain ⟨a, b⟩ := ofLeaves_r (F := F) e2
      refine ⟨by simp [a], fun i u hu => ?_⟩
      cases i with
      | zero => simp at hu; subst hu; simpa using ofLeaf_r e1
      | succ i => simp at hu; simpa using b i u hu
    · simp at h
theorem getD_toList (vs : Array Value) (i : Nat) : vs.toList.getD i undef = vs.getD i undef := by
  simp [List.getD_eq_getElem?_getD]
theorem ofConst_r {F : Froz} {x : Value} {v : V} (hx : ofConst x = some v) : VR F v x := by
  cases x with
  | agg cs =>
    simp only [ofConst, Option.map_eq_some_iff] at hx
    obtain ⟨l, hl, rfl⟩ := hx
    obtain ⟨a, b⟩ := ofLeaves_r (F := F) hl
    exact .agg l cs (by rw [a]; simp) fun i v hv => by rw [← getD_toList]; exact b i v hv
  | tuple cs =>
    simp only [ofConst, Option.map_eq_some_iff] at hx
    obtain ⟨l, hl, rfl⟩ := hx
    obtain ⟨a, b⟩ := ofLeaves_r (F := F) hl
    exact .tup l cs (by rw [a]; simp) fun i v hv => by rw [← getD_toList]; exact b i v hv
  | _ => exact ofLeaf_r hx
def evO (t : Fr) : Operand → Option V
  | .tmp i => t i
  | .const x => ofConst x
  | .global g => some (.ptr g 0)
  | .func f => some (.clo f [])
theorem evO_r {F : Froz} {tm : Array Value} {ds : List Deferred} (hf : FrR F n t tm) {x : Operand} {v : V} (hv : evO t x = some v) : VR F v (Act.eval ⟨tm, ds⟩ x) := by
  cases x with
  | tmp i =>
    obtain ⟨y, hy, r⟩ := hf.at_ i v hv
    have : tm.getD i undef = y := by simp [hy]
    simp only [Act.eval]
    rw [this]; exact r
  | const x => exact ofConst_r hv
  | global g => simp only [evO, Option.some.injEq] at hv; subst hv; exact .ptr g 0
  | func f => simp only [evO, Option.some.injEq] at hv; subst hv; exact .clo f [] #[] rfl (fun i v h => by simp at h)
def evOs (t : Fr) : List Operand → Option (List V)
  | [] => some []
  | x :: r => match evO t x, evOs t r with
    | some v, some vs => some (v :: vs)
    | _, _ => none
theorem evOs_r {F : Froz} {tm : Array Value} {ds : List Deferred} (hf : FrR F n t tm) : ∀ {xs : List Operand} {vs : List V}, evOs t xs = some vs →
    VRs F vs (xs.map (Act.eval ⟨tm, ds⟩)).toArray
  | [], vs, h => by simp only [evOs, Option.some.injEq] at h; subst h; exact VRs.nil F
  | x :: r, vs, h => by
    simp only [evOs] at h
    split at h
    · rename_i v vs' e1 e2
      simp only [Option.some.injEq] at h
      subst h
      obtain ⟨a, b⟩ := evOs_r (F := F) (ds := ds) hf e2
      refine ⟨by simpa using a, fun i u hu => ?_⟩
      cases i with
      | zero => simp at hu; subst hu; simpa using evO_r (ds := ds) hf e1
      | succ i => simp at hu; simpa using b i u hu
    · simp at h
theorem WC.cond {c : Operand} {x y : Code} {b : Bool} (hc : evO t c = some (.bool b)) (h1 : b = true → WC P ρ n x t h dl Q) (h2 : b = false → WC P ρ n y t h dl Q) : WC P ρ n (.cond c x y) t h dl Q := by
  intro F w tm ho hf
  have hv := evO_r (ds := mks dl) hf hc
  have : Act.eval ⟨tm, mks dl⟩ c = .bool b := hv.bool_inv
  cases b with
  | true => exact wpIn_cond this (by simpa using h1 rfl F w tm ho hf)
  | false => exact wpIn_cond this (by simpa using h2 rfl F w tm ho hf)
theorem wpIn_loopN {F : Fence} {m : Nat} {P : Program} {c : Code} {Q : Exit → Act → World → Prop} (I : Nat → Act → World → Prop)
    (round : ∀ j a w, I j a w → c.wpIn F m P (Exit.then (fun a' w' => ∃ j', j' < j ∧ I j' a' w') Q) a w) {j : Nat} {a : Act} {w : World} (h0 : I j a w) : (Code.loop c).wpIn F m P Q a w := by
  intro b k cs hro hb hr
  have key : ∀ j a w, I j a w →
      ∃ e a' w', Q e a' w' ∧ ArrivesIn (Machine.fenced P F) P (lone (b.atR a (.code c :: .inLoop c :: k)) cs w) b k cs e a' w' := by
    intro j
    induction j using Nat.strongRecOn with
    | _ j ih =>
      intro a w hI
      obtain ⟨e, a1, w1, hq, harr⟩ := round j a w hI b (.inLoop c :: k) cs hro hb hr
      cases e with
      | normal =>
        obtain ⟨j', hlt, hI1⟩ := hq
        obtain ⟨e2, a2, w2, hq2, harr2⟩ := ih j' hlt a1 w1 hI1
        exact ⟨e2, a2, w2, hq2, .of_steps (StepsIn.trans harr (.one (fenced_calm hb hr rfl) stepR_inLoop)) harr2⟩
      | exit id => exact ⟨_, a1, w1, hq, .pass (x := .inLoop c) rfl (fun _ _ => .inl (by simp)) harr⟩
      | goto l => exact ⟨_, a1, w1, hq, .pass (x := .inLoop c) rfl (fun _ _ => .inl (by simp)) harr⟩
      | ret => exact ⟨_, a1, w1, hq, .pass (x := .inLoop c) rfl (fun _ _ => .inl (by simp)) harr⟩
      | panic ch => exact ⟨_, a1, w1, hq, .pass (x := .inLoop c) rfl (fun _ _ => .inl (by simp)) harr⟩
      | outgrown => exact ⟨_, a1, w1, hq, .pass (x := .inLoop c) rfl (fun _ _ => .inl (by simp)) harr⟩
  obtain ⟨e, a', w', hq, harr⟩ := key _ a w h0
  exact ⟨e, a', w', hq, .of_steps (.one (fenced_calm hb hr rfl) stepR_loop) harr⟩
theorem WC.loop {c : Code} (I : Nat → Fr → Hp → List Nat → Prop)
    (round : ∀ j t h dl, I j t h dl → WC P ρ n c t h dl (thn (fun t' h' dl' => ∃ j', j' < j ∧ I j' t' h' dl') Q)) {j : Nat} (h0 : I j t h dl) : WC P ρ n (.loop c) t h dl Q := by
  intro F w tm ho hf
  refine wpIn_loopN (fun j a w' => ∃ t' h' dl' F', I j t' h' dl' ∧ Own F' h' w' ∧ FrR F' n t' a.tmps ∧ a.defers = mks dl' ∧ Trans F h w F' h' w') ?_ (j := j) ⟨t, h, dl, F, h0, ho, hf, rfl, Trans.refl _ _ _⟩
  rintro j ⟨tm1, ds1⟩ w1 ⟨t1, h1, dl1, F1, hI, o1, f1, d1, tr1⟩
  simp only at f1 d1
  subst d1
  refine wpIn_mono (round j t1 h1 dl1 hI F1 w1 tm1 o1 f1) fun e a w2 hp => ?_
  obtain ⟨t', h', dl', F', q, o, f, d, tr⟩ := hp
  cases e with
  | normal =>
    obtain ⟨j', hlt, q⟩ := q
    exact ⟨j', hlt, t', h', dl', F', q, o, f, d, tr1.trans tr⟩
  | exit id => exact ⟨t', h', dl', F', q, o, f, d, tr1.trans tr⟩
  | goto l => exact ⟨t', h', dl', F', q, o, f, d, tr1.trans tr⟩
  | ret => exact ⟨t', h', dl', F', q, o, f, d, tr1.trans tr⟩
  | panic ch => exact ⟨t', h', dl', F', q, o, f, d, tr1.trans tr⟩
  | outgrown => exact ⟨t', h', dl', F', q, o, f, d, tr1.trans tr⟩
end rules
end Go.Fw
