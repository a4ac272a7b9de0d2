/- A part of the proof: FwE -/
import Derived.Test.YtmohgegpcfkooaaGreatDoorFwD
import Derived.Laws.StructEq
set_option linter.all false
set_option linter.unusedSectionVars false
set_option linter.unusedVariables false
set_option linter.unusedSimpArgs false
namespace Go.Fw
variable [Gl]
theorem ba_toList (s : List UInt8) : (⟨s.toArray⟩ : ByteArray).toList = s := by rw [ByteArray.toList_eq]
theorem ba_size (s : List UInt8) : (⟨s.toArray⟩ : ByteArray).size = s.length := by simp [ByteArray.size]
theorem ba_append (a b : List UInt8) : (⟨a.toArray⟩ : ByteArray) ++ ⟨b.toArray⟩ = ⟨(a ++ b).toArray⟩ := by
  apply ByteArray.ext
  rw [ByteArray.data_append]
  simp
theorem ba_extract (a : List UInt8) (i j : Nat) : (⟨a.toArray⟩ : ByteArray).extract i j = ⟨((a.drop i).take (j - i)).toArray⟩ := by
  apply ByteArray.ext
  rw [ByteArray.data_extract]
  simp [List.take_drop]
def evInt (op : BinOp) (k : IntKind) (a b : Int) : Option V :=
  match op with
  | .add => some (.int k (k.wrap (a + b)))
  | .sub => some (.int k (k.wrap (a - b)))
  | .mul => some (.int k (k.wrap (a * b)))
  | .quo => if b = 0 then none else some (.int k (k.wrap (a.tdiv b)))
  | .rem => if b = 0 then none else some (.int k (a.tmod b))
  | .and => some (.int k (k.wrap (BitVec.ofInt k.bits a &&& BitVec.ofInt k.bits b).toNat))
  | .or => some (.int k (k.wrap (BitVec.ofInt k.bits a ||| BitVec.ofInt k.bits b).toNat))
  | .xor => some (.int k (k.wrap (BitVec.ofInt k.bits a ^^^ BitVec.ofInt k.bits b).toNat))
  | .andNot => some (.int k (k.wrap (BitVec.ofInt k.bits a &&& ~~~ BitVec.ofInt k.bits b).toNat))
  | .eql => some (.bool (a == b))
  | .neq => some (.bool (a != b))
  | .lss => some (.bool (decide (a < b)))
  | .leq => some (.bool (decide (a ≤ b)))
  | .gtr => some (.bool (decide (b < a)))
  | .geq => some (.bool (decide (b ≤ a)))
  | .shl | .shr => none
def evShift (op : BinOp) (k : IntKind) (a b : Int) : Option V :=
  if b < 0 then none else match op with
  | .shl => some (.int k (k.wrap (a * 2 ^ (min b.toNat k.bits))))
  | .shr => some (.int k (a.fdiv (2 ^ (min b.toNat k.bits))))
  | _ => none
def evStr (op : BinOp) (a b : List UInt8) : Option V :=
  match op with
  | .add => if a.length + b.length ≤ 9223372036854775807 then some (.str (a ++ b)) else none
  | .eql => some (.bool (a == b))
  | .neq => some (.bool (!(a == b)))
  | .lss => some (.bool (Op.bytesLess a b))
  | .leq => some (.bool (Op.bytesLess a b || a == b))
  | .gtr => some (.bool (!(Op.bytesLess a b || a == b)))
  | .geq => some (.bool (!Op.bytesLess a b))
  | _ => none
theorem evInt_run {P : Program} {F : Froz} {w : World} {op : BinOp} {k : IntKind} {a b : Int} {T : TypeId} {v : V} (hv : evInt op k a b = some v) :
    ∃ z, (binOp op T (.int k a) (.int k b)).run P w = .ok z w ∧ VR F v z := by
  cases op <;> simp only [evInt] at hv <;> first
    | (simp at hv; done)
    | (split at hv
       · simp at hv
       · simp only [Option.some.injEq] at hv; subst hv
         refine ⟨_, ?_, by constructor⟩
         simp [binOp, Op.intDiv, *])
    | (simp only [Option.some.injEq] at hv; subst hv
       refine ⟨_, ?_, by constructor⟩
       simp only [binOp, Op.intArith, Op.intBits, Op.intCmp, ne_eq, not_true_eq_false, if_false, gt_iff_lt, ge_iff_le]
       first | rfl | simp)
theorem evShift_run {P : Program} {F : Froz} {w : World} {op : BinOp} {k k' : IntKind} {a b : Int} {T : TypeId} {v : V} (hv : evShift op k a b = some v) :
    ∃ z, (binOp op T (.int k a) (.int k' b)).run P w = .ok z w ∧ VR F v z := by
  unfold evShift at hv
  split at hv
  · simp at hv
  · cases op <;> simp only at hv <;> first
      | (simp at hv; done)
      | (simp only [Option.some.injEq] at hv; subst hv
         refine ⟨_, ?_, by constructor⟩
         simp [binOp, Op.shift, *])
theorem evStr_run {P : Program} {F : Froz} {w : World} {op : BinOp} {a b : List UInt8} {T : TypeId} {v : V} (hv : evStr op a b = some v) :
    ∃ z, (binOp op T (.string ⟨a.toArray⟩) (.string ⟨b.toArray⟩)).run P w = .ok z w ∧ VR F v z := by
  cases op <;> simp only [evStr] at hv <;> first
    | (simp at hv; done)
    | (simp only [Option.some.injEq] at hv; subst hv
       refine ⟨_, ?_, by constructor⟩
       simp only [binOp, Op.stringOp, ba_toList]; rfl)
    | (split at hv
       · rename_i hl
         simp only [Option.some.injEq] at hv; subst hv
         refine ⟨.string ⟨(a ++ b).toArray⟩, ?_, .str _⟩
         simp only [binOp, Op.stringOp, ba_size]
         rw [if_neg (by simp [IntKind.max, IntKind.signed, IntKind.bits]; omega), ba_append]
         rfl
       · simp at hv)
def tflds (P : Program) (T : TypeId) : Option (List (Nat × TypeId)) :=
  match P.underlying T with
  | some (.struct fs) => if fs.toList.all (·.name != "_") && !P.stoodInHeld T && !P.eqGuardType P.depth T then some (fs.toList.map fun f => (f.offset, f.type)) else none
  | _ => none
def tkd (P : Program) (T : TypeId) : Option Nat :=   -- 0 bool, 1 pointer, 2 slice, 3 map, 4 func
  match P.underlying T with
  | some .bool => some 0
  | some (.pointer _) => some 1
  | some (.slice _) => some 2
  | some (.map _ _) => some 3
  | some (.func _ _ _) => some 4
  | _ => none
def evEqF (P : Program) (ev : TypeId → V → V → Option Bool) (xs ys : List V) : List (Nat × TypeId) → Option Bool
  | [] => some true
  | (o, u) :: r => match evPart P u xs o, evPart P u ys o with
    | some a, some b => match ev u a b, evEqF P ev xs ys r with
      | some c, some d => some (c && d)
      | _, _ => none
    | _, _ => none
def evEq (P : Program) : Nat → TypeId → V → V → Option Bool
  | 0, _, _, _ => none
  | n + 1, T, x, y => match x, y with
    | .bool a, .bool b => if tkd P T = some 0 then some (a == b) else none
    | .int k a, .int k' b => if (tint P T).isSome ∧ k = k' then some (a == b) else none
    | .str a, .str b => if tisstr P T = true then some (a == b) else none
    | .nilptr, .nilptr => if tkd P T = some 1 then some true else none
    | .nilptr, .ptr _ _ | .nilptr, .fptr _ _ | .ptr _ _, .nilptr | .fptr _ _, .nilptr => if tkd P T = some 1 then some false else none
    | .nilslice, .nilslice => if tkd P T = some 2 then some true else none
    | .nilslice, .slice _ _ _ _ | .slice _ _ _ _, .nilslice => if tkd P T = some 2 then some false else none
    | .nilmap, .nilmap => if tkd P T = some 3 then some true else none
    | .nilmap, .map _ | .map _, .nilmap => if tkd P T = some 3 then some false else none
    | .nilfunc, .nilfunc => if tkd P T = some 4 then some true else none
    | .nilfunc, .clo _ _ | .nilfunc, .yield _ | .clo _ _, .nilfunc | .yield _, .nilfunc => if tkd P T = some 4 then some false else none
    | .agg xs, .agg ys => match tflds P T with
      | some fs => evEqF P (evEq P n) xs ys fs
      | none => none
    | _, _ => none
theorem evEqF_run {P : Program} {F : Froz} {w : World} {m : Nat} {ev : TypeId → V → V → Option Bool} (hev : ∀ T a b c x y, VR F a x → VR F b y → ev T a b = some c → (Op.equalIn m T x y).run P w = .ok c w)
    {xs ys : List V} {vs us : Array Value} (hx : VRs F xs vs) (hy : VRs F ys us) : ∀ (fs : List Field) (r : Bool), (∀ f ∈ fs, f.name ≠ "_") → evEqF P ev xs ys (fs.map fun f => (f.offset, f.type)) = some r →
    (Op.eqFields m vs us fs).run P w = .ok r w
  | [], r, _, h => by
    simp only [List.map_nil, evEqF, Option.some.injEq] at h
    subst h
    simp [Op.eqFields]
  | f :: fs, r, hn, h => by
    simp only [List.map_cons, evEqF] at h
    split at h
    · rename_i a b e1 e2
      split at h
      · rename_i c d e3 e4
        simp only [Option.some.injEq] at h
        subst h
        obtain ⟨x, hx1, rx⟩ := evPart_run (P := P) (w := w) hx e1
        obtain ⟨y, hy1, ry⟩ := evPart_run (P := P) (w := w) hy e2
        have h3 := hev _ _ _ _ _ _ rx ry e3
        have h4 := evEqF_run hev hx hy fs d (fun g hg => hn g (List.mem_cons_of_mem _ hg)) e4
        simp only [Op.eqFields, if_pos (hn f (by simp)), Sem.run_bind, hx1, hy1, h3, Result.andThen_ok]
        cases c
        · simp
        · simpa using h4
      · simp at h
    · simp at h
theorem tkd_und {P : Program} {T : TypeId} {n : Nat} (h : tkd P T = some n) : (n = 0 ∧ P.underlying T = some .bool) ∨ (n = 1 ∧ ∃ e, P.underlying T = some (.pointer e)) ∨ (n = 2 ∧ ∃ e, P.underlying T = some (.slice e)) ∨
    (n = 3 ∧ ∃ k e, P.underlying T = some (.map k e)) ∨ (n = 4 ∧ ∃ a b c, P.underlying T = some (.func a b c)) := by
  unfold tkd at h
  split at h <;> simp_all
theorem tund_bool {P : Program} {T : TypeId} (h : tkd P T = some 0) : P.underlying T = some .bool := by rcases tkd_und h with ⟨_, h⟩ | ⟨h, _⟩ | ⟨h, _⟩ | ⟨h, _⟩ | ⟨h, _⟩ <;> first | exact h | omega
theorem tund_ptr {P : Program} {T : TypeId} (h : tkd P T = some 1) : ∃ e, P.underlying T = some (.pointer e) := by rcases tkd_und h with ⟨h, _⟩ | ⟨_, h⟩ | ⟨h, _⟩ | ⟨h, _⟩ | ⟨h, _⟩ <;> first | exact h | omega
theorem tund_sl {P : Program} {T : TypeId} (h : tkd P T = some 2) : ∃ e, P.underlying T = some (.slice e) := by rcases tkd_und h with ⟨h, _⟩ | ⟨h, _⟩ | ⟨_, h⟩ | ⟨h, _⟩ | ⟨h, _⟩ <;> first | exact h | omega
theorem tund_map {P : Program} {T : TypeId} (h : tkd P T = some 3) : ∃ k e, P.underlying T = some (.map k e) := by rcases tkd_und h with ⟨h, _⟩ | ⟨h, _⟩ | ⟨h, _⟩ | ⟨_, h⟩ | ⟨h, _⟩ <;> first | exact h | omega
theorem tund_fn {P : Program} {T : TypeId} (h : tkd P T = some 4) : ∃ a b c, P.underlying T = some (.func a b c) := by rcases tkd_und h with ⟨h, _⟩ | ⟨h, _⟩ | ⟨h, _⟩ | ⟨h, _⟩ | ⟨_, h⟩ <;> first | exact h | omega
set_option maxHeartbeats 2000000 in
theorem evEq_run {P : Program} {F : Froz} {w : World} : ∀ (n m : Nat) (T : TypeId) (a b : V) (c : Bool) (x y : Value), VR F a x → VR F b y → evEq P n T a b = some c → (Op.equalIn (m + n) T x y).run P w = .ok c w
  | 0, _, _, _, _, _, _, _, _, _, h => by simp [evEq] at h
  | n + 1, m, T, a, b, c, x, y, hx, hy, h => by
    rw [← Nat.add_assoc]
    have ih := fun T a b c x y hx hy h => evEq_run (P := P) (F := F) (w := w) n m T a b c x y hx hy h
    unfold evEq at h
    split at h
    · obtain rfl := hx.bool_inv; obtain rfl := hy.bool_inv
      split at h
      · rename_i ht
        simp only [Option.some.injEq] at h; subst h
        simp [Op.equalIn, tund_run (tund_bool ht)]
      · simp at h
    · obtain rfl := hx.int_inv; obtain rfl := hy.int_inv
      split at h
      · rename_i ht
        obtain ⟨h1, rfl⟩ := ht
        obtain ⟨k, hk⟩ := Option.isSome_iff_exists.1 h1
        simp only [Option.some.injEq] at h; subst h
        simp [Op.equalIn, tund_run (tint_und hk)]
      · simp at h
    · obtain rfl := hx.str_inv; obtain rfl := hy.str_inv
      split at h
      · rename_i ht
        simp only [Option.some.injEq] at h; subst h
        simp [Op.equalIn, tund_run (tisstr_und ht), beq_toListBytes, ba_toList]
      · simp at h
    · obtain rfl := hx.nilptr_inv; obtain rfl := hy.nilptr_inv
      split at h
      · rename_i ht; obtain ⟨e, he⟩ := tund_ptr ht
        simp only [Option.some.injEq] at h; subst h
        simp [Op.equalIn, tund_run he]
      · simp at h
    · obtain rfl := hx.nilptr_inv; obtain rfl := hy.ptr_inv
      split at h
      · rename_i ht; obtain ⟨e, he⟩ := tund_ptr ht
        simp only [Option.some.injEq] at h; subst h
        simp [Op.equalIn, tund_run he]
      · simp at h
    · obtain rfl := hx.nilptr_inv; obtain ⟨a, g, rfl, _, _⟩ := hy.fptr_inv
      split at h
      · rename_i ht; obtain ⟨e, he⟩ := tund_ptr ht
        simp only [Option.some.injEq] at h; subst h
        simp [Op.equalIn, tund_run he]
      · simp at h
    · obtain rfl := hy.nilptr_inv; obtain rfl := hx.ptr_inv
      split at h
      · rename_i ht; obtain ⟨e, he⟩ := tund_ptr ht
        simp only [Option.some.injEq] at h; subst h
        simp [Op.equalIn, tund_run he]
      · simp at h
    · obtain rfl := hy.nilptr_inv; obtain ⟨a, g, rfl, _, _⟩ := hx.fptr_inv
      split at h
      · rename_i ht; obtain ⟨e, he⟩ := tund_ptr ht
        simp only [Option.some.injEq] at h; subst h
        simp [Op.equalIn, tund_run he]
      · simp at h
    · obtain rfl := hx.nilslice_inv; obtain rfl := hy.nilslice_inv
      split at h
      · rename_i ht; obtain ⟨e, he⟩ := tund_sl ht
        simp only [Option.some.injEq] at h; subst h
        simp [Op.equalIn, tund_run he]
      · simp at h
    · obtain rfl := hx.nilslice_inv; obtain rfl := hy.slice_inv
      split at h
      · rename_i ht; obtain ⟨e, he⟩ := tund_sl ht
        simp only [Option.some.injEq] at h; subst h
        simp [Op.equalIn, tund_run he]
      · simp at h
    · obtain rfl := hy.nilslice_inv; obtain rfl := hx.slice_inv
      split at h
      · rename_i ht; obtain ⟨e, he⟩ := tund_sl ht
        simp only [Option.some.injEq] at h; subst h
        simp [Op.equalIn, tund_run he]
      · simp at h
    · obtain rfl := hx.nilmap_inv; obtain rfl := hy.nilmap_inv
      split at h
      · rename_i ht; obtain ⟨k, e, he⟩ := tund_map ht
        simp only [Option.some.injEq] at h; subst h
        simp [Op.equalIn, tund_run he]
      · simp at h
    · obtain rfl := hx.nilmap_inv; obtain rfl := hy.map_inv
      split at h
      · rename_i ht; obtain ⟨k, e, he⟩ := tund_map ht
        simp only [Option.some.injEq] at h; subst h
        simp [Op.equalIn, tund_run he]
      · simp at h
    · obtain rfl := hy.nilmap_inv; obtain rfl := hx.map_inv
      split at h
      · rename_i ht; obtain ⟨k, e, he⟩ := tund_map ht
        simp only [Option.some.injEq] at h; subst h
        simp [Op.equalIn, tund_run he]
      · simp at h
    · obtain rfl := hx.nilfunc_inv; obtain rfl := hy.nilfunc_inv
      split at h
      · rename_i ht; obtain ⟨a, b, c, he⟩ := tund_fn ht
        simp only [Option.some.injEq] at h; subst h
        simp [Op.equalIn, tund_run he]
      · simp at h
    · obtain rfl := hx.nilfunc_inv; obtain ⟨vs, rfl, _⟩ := hy.clo_inv
      split at h
      · rename_i ht; obtain ⟨a, b, c, he⟩ := tund_fn ht
        simp only [Option.some.injEq] at h; subst h
        simp [Op.equalIn, tund_run he]
      · simp at h
    · obtain rfl := hx.nilfunc_inv; obtain rfl := hy.yield_inv
      split at h
      · rename_i ht; obtain ⟨a, b, c, he⟩ := tund_fn ht
        simp only [Option.some.injEq] at h; subst h
        simp [Op.equalIn, tund_run he]
      · simp at h
    · obtain rfl := hy.nilfunc_inv; obtain ⟨vs, rfl, _⟩ := hx.clo_inv
      split at h
      · rename_i ht; obtain ⟨a, b, c, he⟩ := tund_fn ht
        simp only [Option.some.injEq] at h; subst h
        simp [Op.equalIn, tund_run he]
      · simp at h
    · obtain rfl := hy.nilfunc_inv; obtain rfl := hx.yield_inv
      split at h
      · rename_i ht; obtain ⟨a, b, c, he⟩ := tund_fn ht
        simp only [Option.some.injEq] at h; subst h
        simp [Op.equalIn, tund_run he]
      · simp at h
    · rename_i xs ys
      obtain ⟨vs, rfl, rx⟩ := hx.agg_inv
      obtain ⟨us, rfl, ry⟩ := hy.agg_inv
      split at h
      · rename_i fs hfs
        unfold tflds at hfs
        split at hfs
        · rename_i fa hu
          split at hfs
          · rename_i hc
            simp only [Option.some.injEq] at hfs
            subst hfs
            simp only [Bool.and_eq_true, List.all_eq_true, Bool.not_eq_true'] at hc
            have hf : P.fieldsOf T = fa := by simp [Program.fieldsOf, hu]
            rw [run_equalIn_struct (P := P) w (m + n) T vs us (by rw [hf]; exact hu) hc.1.2, hf]
            exact evEqF_run ih rx ry fa.toList c (fun f hf => by simpa using hc.1.1 f hf) h
          · simp at hfs
        · simp at hfs
      · simp at h
    · simp at h
def eqFine (P : Program) (T : TypeId) : V → Bool
  | .agg _ => (tflds P T).isSome
  | .niliface | .iface _ _ | .tup _ => false
  | _ => true
def evBin (P : Program) (op : BinOp) (T : TypeId) (x y : V) : Option V :=
  match x, y with
  | .int k a, .int k' b => if op = .shl ∨ op = .shr then evShift op k a b else if k = k' then evInt op k a b else none
  | .str a, .str b => evStr op a b
  | x, y => match op with
    | .eql => if eqFine P T x then (evEq P 8 T x y).map .bool else none
    | .neq => if eqFine P T x then (evEq P 8 T x y).map fun b => .bool (!b) else none
    | _ => none
end Go.Fw
