/- A part of the proof: LwS, LwT, LwU, LwV, LwW, LwX, LwY, LwZ, LwAA, LwAB -/
import Derived.Test.YtonbppofjlpklaaGreatDoorLwR
set_option linter.all false
set_option linter.unusedSectionVars false
set_option linter.unusedVariables false
set_option linter.unusedSimpArgs false
section
namespace Go.Fw
variable [Gl]
variable {P : Program} {ρr : Option Nat} {n nb : Nat} {Q : LPo} {arr : Array Oper} {o : Oper} {os : List Oper} {κ : List Kt} {kn : Kn} {m : Fl} {h hf : Hp} {nx : Nat} {dl : List Nat} {dr : Dr}
end Go.Fw
end

section
namespace Go.Fw
variable [Gl]
variable {P : Program} {ρr : Option Nat} {n nb : Nat} {Q : LPo} {arr : Array Oper} {o : Oper} {os : List Oper} {κ : List Kt} {kn : Kn} {m : Fl} {h hf : Hp} {nx : Nat} {dl : List Nat} {dr : Dr}
end Go.Fw
end

section
namespace Go.Fw
variable [Gl]
variable {P : Program} {ρr : Option Nat} {n nb : Nat} {Q : LPo} {arr : Array Oper} {o : Oper} {os : List Oper} {κ : List Kt} {kn : Kn} {m : Fl} {h hf : Hp} {nx : Nat} {dl : List Nat}
theorem dlOk_ret2 {rs : List ResultVar} {t : Fr} {v : V} (a : Hp) (hv : ∀ hf : Hp, (a ++ hf).ns.Nodup → resAll P rs t (a ++ hf) = some v) : ∀ (dl : List Nat) (hf : Hp), (a ++ hf).ns.Nodup → dlOk dl hf → RetOk P rs (fun u h' => u = v ∧ ∃ hf2, h' = a ++ hf2) t dl (a ++ hf)
  | [], hf, hn, _ => ⟨v, hv hf hn, rfl, hf, rfl⟩
  | r :: dl, hf, hn, hd => by
    obtain ⟨h1, h2⟩ := hget_right hd.1 hn
    refine ⟨h1, ?_⟩
    rw [h2]
    exact dlOk_ret2 a hv dl _ (by rw [← h2]; exact hdel_nodup r hn) hd.2
theorem YieldS.framed {l : Nat} {as : List V} {K : V → Hp → Prop} (hy : YieldS P l as hf K) (h0 : Hp) : YieldS P l as (h0 ++ hf) fun v h' => ∃ h1, h' = h0 ++ h1 ∧ K v h1 := by
  intro F w av ρ o a next Q' ho ha hn
  have hp : (hf ++ h0).Perm (h0 ++ hf) := List.perm_append_comm
  have ho1 := ho.perm hp
  refine hy F w av ρ o a next Q' (ho1.sub (List.sublist_append_left _ _)) ha fun v x h' F' w' k o' r tr => ?_
  obtain ⟨g1, g2, g3⟩ := own_frame ho1 o' tr
  have hp2 : (h0 ++ h').Perm (h' ++ h0) := List.perm_append_comm
  exact hn v x _ F' w' ⟨h', rfl, k⟩ (g1.perm hp2) r (((Trans.perm hp).trans g2).trans (Trans.perm hp2))
def bindL : List Nat → List V → Fl → Fl
  | p :: ps, v :: vs, m => bindL ps vs ((p, v) :: m)
  | _, _, m => m
theorem bindL_ren (ρ : Nat → Option Nat) : ∀ (ps : List Nat) (vs : List V) (m : Fl), vs.all dry = true → bindP ps vs (renT ρ m) = renT ρ (bindL ps vs m)
  | [], vs, m, _ => by cases vs <;> rfl
  | p :: ps, [], m, _ => rfl
  | p :: ps, v :: vs, m, hd => by
    simp only [List.all_cons, Bool.and_eq_true] at hd
    simp only [bindP, bindL]
    rw [← bindL_ren ρ ps vs _ hd.2, renT_cons, dry_ren ρ hd.1]
end Go.Fw
end

section
namespace Go.Fw
variable {α : Type}
end Go.Fw
end

section
namespace Go.Fw
variable [Gl]
variable {P : Program} {ρr : Option Nat} {n nb : Nat} {Q : LPo} {arr : Array Oper} {o : Oper} {os : List Oper} {κ : List Kt} {kn : Kn} {m : Fl} {h hf : Hp} {nx : Nat} {dl : List Nat}
end Go.Fw
namespace Go.Fw
variable [Gl]
variable {P : Program} {ρr : Option Nat} {n nb : Nat} {Q : LPo} {arr : Array Oper} {o : Oper} {os : List Oper} {κ : List Kt} {kn : Kn} {m : Fl} {h hf : Hp} {nx : Nat} {dl : List Nat}
end Go.Fw
end

section
namespace Go.Fw
variable [Gl]
variable {P : Program} {ρr : Option Nat} {n nb : Nat} {Q : LPo} {arr : Array Oper} {o : Oper} {os : List Oper} {κ : List Kt} {kn : Kn} {m : Fl} {h hf : Hp} {nx : Nat} {dl : List Nat} {fu : Nat} {L : List Nat} {K : KD} {i : Nat}
end Go.Fw
namespace Go.Fw
variable [Gl]
end Go.Fw
end

section
namespace Go.Fw
variable [Gl]
variable {P : Program} {ρ ρr : Option Nat} {n nb : Nat} {Q : LPo} {arr : Array Oper} {o : Oper} {os : List Oper} {κ : List Kt} {kn : Kn} {m : Fl} {t : Fr} {h hf : Hp} {nx : Nat} {dl : List Nat} {K : V → Hp → Prop}
end Go.Fw
end

section
namespace Go.Fw
variable [Gl]
variable {P : Program} {ρr : Option Nat} {n nb : Nat} {Q : LPo} {arr : Array Oper} {o : Oper} {os : List Oper} {κ : List Kt} {kn : Kn} {m : Fl} {h hf : Hp} {nx : Nat} {dl : List Nat}
variable {fu : Nat} {L : List Nat} {K : KD} {i : Nat}
end Go.Fw
end

section
namespace Go.Fw
variable [Gl]
variable {P : Program} {ρr : Option Nat} {n nb : Nat} {Q : LPo} {arr : Array Oper} {o : Oper} {os : List Oper} {κ : List Kt} {kn : Kn} {m : Fl} {h hf : Hp} {nx : Nat} {dl : List Nat}
end Go.Fw
end

section
namespace Go.Fw
variable [Gl]
variable {P : Program} {ρr : Option Nat} {n nb : Nat} {Q : LPo} {arr : Array Oper} {o : Oper} {os : List Oper} {κ : List Kt} {kn : Kn} {m : Fl} {h hf : Hp} {nx : Nat} {dl : List Nat}
end Go.Fw
end
