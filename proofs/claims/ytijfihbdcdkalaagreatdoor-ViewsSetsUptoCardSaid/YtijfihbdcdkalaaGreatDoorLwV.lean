/- A part of the proof: LwV -/
import Derived.Test.YtijfihbdcdkalaaGreatDoorLwU
set_option linter.all false
set_option linter.unusedSectionVars false
set_option linter.unusedVariables false
set_option linter.unusedSimpArgs false
namespace Go.Fw
def mpM {α : Type} (f : α → V) (M : List (List UInt8 × α)) : List (V × V) := M.map fun p => (.str p.1, f p.2)
def ixM {α : Type} (s : List UInt8) : List (List UInt8 × α) → Option Nat
  | [] => none
  | p :: r => if s = p.1 then some 0 else (ixM s r).map (· + 1)
def getM {α : Type} (z : α) (s : List UInt8) : List (List UInt8 × α) → α
  | [] => z
  | p :: r => if s = p.1 then p.2 else getM z s r
def putM {α : Type} (s : List UInt8) (x : α) : List (List UInt8 × α) → List (List UInt8 × α)
  | [] => [(s, x)]
  | p :: r => if s = p.1 then (s, x) :: r else p :: putM s x r
variable {α : Type}
theorem mix_mpM (f : α → V) (s : List UInt8) : ∀ M : List (List UInt8 × α), mix (.str s) (mpM f M) = some (ixM s M)
  | [] => rfl
  | p :: r => by
    have ih := mix_mpM f s r
    simp only [mpM] at ih
    simp only [mpM, List.map_cons, mix, keyq, ixM]
    by_cases h : s = p.1
    · rw [if_pos h, show (s == p.1) = true by simpa using h]
    · rw [if_neg h, show (s == p.1) = false by simpa using h, ih]; rfl
theorem lk_get (f : α → V) (z : α) (s : List UInt8) : ∀ M : List (List UInt8 × α), ((ixM s M).bind fun j => ((mpM f M)[j]?).map (·.2)).getD (f z) = f (getM z s M)
  | [] => rfl
  | p :: r => by
    have ih := lk_get f z s r
    simp only [ixM, getM]
    by_cases h : s = p.1
    · rw [if_pos h, if_pos h]; rfl
    · rw [if_neg h, if_neg h, ← ih]
      cases ixM s r with
      | none => rfl
      | some j => simp [mpM]
theorem lkM_1 (f : α → V) (z : α) (s : List UInt8) (M : List (List UInt8 × α)) : lkM (f z) false (mpM f M) (ixM s M) = f (getM z s M) := by
  simp only [lkM, lk_get]; rfl
theorem lk_hit (f : α → V) (z : α) (s : List UInt8) : ∀ M : List (List UInt8 × α), (ixM s M).isSome = true → ((ixM s M).bind fun j => ((mpM f M)[j]?).map (·.2)) = some (f (getM z s M))
  | [], h => by simp [ixM] at h
  | p :: r, h => by
    have ih := lk_hit f z s r
    simp only [ixM, getM] at h ⊢
    by_cases h1 : s = p.1
    · rw [if_pos h1, if_pos h1]; rfl
    · rw [if_neg h1, Option.isSome_map] at h
      rw [if_neg h1, if_neg h1, ← ih h]
      cases ixM s r with
      | none => rfl
      | some j => simp [mpM]
theorem lkM_h1 (f : α → V) (z : α) (zv : V) (s : List UInt8) (M : List (List UInt8 × α)) (h : (ixM s M).isSome = true) : lkM zv false (mpM f M) (ixM s M) = f (getM z s M) := by
  simp only [lkM, lk_hit f z s M h]; rfl
theorem lkM_h2 (f : α → V) (z : α) (zv : V) (s : List UInt8) (M : List (List UInt8 × α)) (h : (ixM s M).isSome = true) : lkM zv true (mpM f M) (ixM s M) = .tup [f (getM z s M), .bool true] := by
  simp only [lkM, lk_hit f z s M h, h]; rfl
theorem lkM_n2 (f : α → V) (zv : V) (s : List UInt8) (M : List (List UInt8 × α)) (h : (ixM s M).isSome = false) : lkM zv true (mpM f M) (ixM s M) = .tup [zv, .bool false] := by
  have : ixM s M = none := by cases hx : ixM s M <;> simp_all
  simp only [lkM, this]; rfl
theorem mput_mpM (f : α → V) (s : List UInt8) (x : α) : ∀ M : List (List UInt8 × α), mput (.str s) (f x) (mpM f M) = some (mpM f (putM s x M))
  | [] => rfl
  | p :: r => by
    have ih := mput_mpM f s x r
    simp only [mput, mix_mpM, Option.map_some, ixM, putM] at ih ⊢
    by_cases h : s = p.1
    · rw [if_pos h, if_pos h]; rfl
    · rw [if_neg h, if_neg h]
      cases hi : ixM s r with
      | none =>
        rw [hi] at ih
        simp only [Option.some.injEq, Option.map_none] at ih ⊢
        simp only [mpM, List.map_cons, List.cons_append] at ih ⊢
        rw [ih]
      | some j =>
        rw [hi] at ih
        simp only [Option.some.injEq, Option.map_some] at ih ⊢
        simp only [mpM, List.map_cons, List.set_cons_succ] at ih ⊢
        rw [ih]
theorem dryM_mpM (f : α → V) (hf : ∀ x, dry (f x) = true) (M : List (List UInt8 × α)) : dryM (mpM f M) = true := by
  simp only [dryM, mpM, List.all_map, List.all_eq_true]
  intro p _
  show (dry (.str p.1) && dry (f p.2)) = true
  rw [hf]; rfl
theorem getM_put (z : α) (s t : List UInt8) (x : α) : ∀ M : List (List UInt8 × α), getM z t (putM s x M) = if t = s then x else getM z t M
  | [] => by simp [putM, getM]
  | p :: r => by
    have ih := getM_put z s t x r
    simp only [putM]
    by_cases h : s = p.1
    · rw [if_pos h]
      simp only [getM]
      by_cases h2 : t = s
      · rw [if_pos h2, if_pos h2]
      · rw [if_neg h2, if_neg h2, if_neg (by rw [← h]; exact h2)]
    · rw [if_neg h]
      simp only [getM, ih]
      by_cases h2 : t = s
      · rw [if_pos h2, if_pos h2, if_neg (by rw [h2]; exact h)]
      · rw [if_neg h2, if_neg h2]
theorem ixM_put (s t : List UInt8) (x : α) : ∀ M : List (List UInt8 × α), (ixM t (putM s x M)).isSome = (t == s || (ixM t M).isSome)
  | [] => by
    by_cases h : t = s
    · simp [putM, ixM, h]
    · have : (t == s) = false := by simpa using h
      simp [putM, ixM, h, this]
  | p :: r => by
    have ih := ixM_put s t x r
    simp only [putM]
    by_cases h : s = p.1
    · rw [if_pos h]
      simp only [ixM]
      by_cases h2 : t = s
      · simp [h2]
      · have h3 : (t == s) = false := by simpa using h2
        rw [if_neg h2, if_neg (by rw [← h]; exact h2), h3]; simp
    · rw [if_neg h]
      simp only [ixM]
      by_cases h2 : t = p.1
      · simp [h2]
      · rw [if_neg h2, if_neg h2, Option.isSome_map, Option.isSome_map, ih]
end Go.Fw
