/- A part of the proof: LwM -/
import Derived.Test.YtijfihbdcdkalaaGreatDoorLwL
set_option linter.all false
set_option linter.unusedSectionVars false
set_option linter.unusedVariables false
set_option linter.unusedSimpArgs false
namespace Go.Fw
variable [Gl]
variable {P : Program} {ρr : Option Nat} {n nb : Nat} {Q : LPo} {arr : Array Oper} {o : Oper} {os : List Oper} {κ : List Kt} {kn : Kn} {m : Fl} {h hf : Hp} {nx : Nat} {dl : List Nat} {dr : Dr}
theorem Safe.gsK (c : Bool) {i : Nat} {b : Bool} (hv : gdT arr m o = some (i, .bool b)) (hb : b = c) (h1 : Safe nb P ρr n Q (.ops arr dr (o :: os) κ ((i, some c) :: kn) m h nx hf dl)) :
    Safe nb P ρr n Q (.ops arr dr (o :: os) κ kn m h nx hf dl) := by
  subst hb
  cases dr with
  | no => exact fun hk => h1 (hk.know (gdT_lk hv))
  | at_ j ck => exact fun hd hk => h1 hd (hk.know (gdT_lk hv))
theorem Safe.brT {i : Nat} {b : Bool} {x y : Code} (hv : lk m i = some (.bool b)) (hb : b = true) (h1 : Safe nb P ρr n Q (.code x κ ((i, some true) :: kn) m h nx hf dl)) :
    Safe nb P ρr n Q (.code (.cond (.tmp i) x y) κ kn m h nx hf dl) := Safe.br hv (fun _ => h1) (fun e => by rw [hb] at e; cases e)
theorem Safe.brF {i : Nat} {b : Bool} {x y : Code} (hv : lk m i = some (.bool b)) (hb : b = false) (h1 : Safe nb P ρr n Q (.code y κ ((i, some false) :: kn) m h nx hf dl)) :
    Safe nb P ρr n Q (.code (.cond (.tmp i) x y) κ kn m h nx hf dl) := Safe.br hv (fun e => by rw [hb] at e; cases e) (fun _ => h1)
def isCmpA (m : Fl) (o : Oper) : Option (Bool × TypeId × List V × List V) := match o.op with
  | .binOp op T x y _ => match evX m x with
    | some (.agg a) => match evX m y with
      | some (.agg b) => match op with
        | .eql => some (true, T, a, b)
        | .neq => some (false, T, a, b)
        | _ => none
      | _ => none
    | _ => none
  | _ => none
theorem ev_cmpA {q c : Bool} {T : TypeId} {a b : List V} (he : evEq P 8 T (.agg a) (.agg b) = some c) (hq : eqFine P T (.agg a) = true) (hc : isCmpA m o = some (q, T, a, b)) (hd : (dry (.agg a) && dry (.agg b)) = true) : Ev P m h hf o (.bool (c == q)) := by
  intro ρ hn ht
  simp only [Bool.and_eq_true] at hd
  unfold isCmpA at hc
  split at hc
  · rename_i op T' x y U hop
    split at hc
    · rename_i a' ha
      split at hc
      · rename_i b' hb
        have e1 := dry_ren ρ hd.1
        have e2 := dry_ren ρ hd.2
        cases op <;> simp only [Option.some.injEq, Prod.mk.injEq, reduceCtorEq] at hc
        all_goals
          obtain ⟨rfl, rfl, rfl, rfl⟩ := hc
          simp only [renV, V.agg.injEq] at e1 e2
          simp only [evP, hop, evX_ren ha, evX_ren hb, renV, e1, e2, evBin, hq, if_true, he, Option.map_some]
          cases c <;> rfl
      · simp at hc
    · simp at hc
  · simp at hc
theorem Safe.cmpA {q c : Bool} {d : Nat} {T : TypeId} {a b : List V} (he : evEq P 8 T (.agg a) (.agg b) = some c) (hq : eqFine P T (.agg a) = true) (hc : isCmpA m o = some (q, T, a, b)) (hr : rdyO arr kn m n o = some d) (hd : (dry (.agg a) && dry (.agg b)) = true)
    (hs : Safe nb P ρr n Q (.ops arr dr.nx os κ ((d, none) :: kn) ((d, .bool (c == q)) :: m) h nx hf dl)) (hck : ckV h o (.bool (c == q)) dr = true := by rfl) : Safe nb P ρr n Q (.ops arr dr (o :: os) κ kn m h nx hf dl) :=
  Safe.val (ev_cmpA he hq hc hd) hr hs hck
end Go.Fw
