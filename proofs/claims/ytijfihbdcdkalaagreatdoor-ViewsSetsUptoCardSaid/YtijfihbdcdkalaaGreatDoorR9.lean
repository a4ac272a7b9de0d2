/- The function ViewsSets answers true for every list of views and every two views whose reading is of bulk at most 1048576 (the given bound of the second form), and leaves them as they are. No other condition but the card's own. -/
import Derived.Test.YtijfihbdcdkalaaGreatDoorK9
set_option linter.all false
set_option linter.unusedSectionVars false
set_option linter.unusedVariables false
set_option linter.unusedSimpArgs false
namespace Go.Proofs.YtijfihbdcdkalaaGreatDoor
open Go.Deep Go.ChangeShapes Go.WideShapes Go.ChangeAt Go.RowKit Go.Fw Go.ChangeMaps
namespace rsets
theorem vrs_three {F : Froz} {a b c : V} {x y z : Value} (h1 : VR F a x) (h2 : VR F b y) (h3 : VR F c z) : VRs F [a, b, c] #[x, y, z] := ⟨rfl, fun i v hv => by
  match i with
  | 0 => simp at hv; subst hv; simpa using h1
  | 1 => simp at hv; subst hv; simpa using h2
  | 2 => simp at hv; subst hv; simpa using h3
  | i + 3 => simp at hv⟩
set_option maxRecDepth 100000 in
theorem contract (H : Type) (enc : TypeId × Value → H) (W : World) (base : Nat) (args : Array Value) (ds gs : List (DataW H)) (before : List MemPlace)
    (hval : ∀ (j : Nat) t v, Tryz.f9.params[j]? = some t → args[j]? = some v → Value.okWide Tryz.prog W .any base t v)
    (hW : DataW.Whole enc Tryz.prog Tryz.f9.params.toList Rows.viewsSetsSpec.vars false W args.toList ds gs before) (hL : laidMet Tryz.prog Rows.viewsSetsRow.laid W) (hbk : Rows.uptoSmall H (ds ++ gs) = true) :
    Calls Tryz.prog 9 args W fun e W' => ∃ v, e = .returned v ∧ Rows.viewsSetsSpec.post enc Tryz.prog Tryz.f9 false true false false W args v W' := by
  have hW' := hW
  obtain ⟨p, q, hA0, hV, rfl, hfz, hnd⟩ := hW
  have hA : DataW.TrodAll enc Tryz.prog W 0 (fun _ => true) true Tryz.f9.params.toList args.toList ds p := hA0
  rw [Tryz.params9] at hA hval
  obtain ⟨v0, vs0, d0, ds0, p0, q0, hargs, rfl, rfl, h0, r0⟩ := trodAll_cons hA
  obtain ⟨v1, vs1, d1, ds1, p1, q1, rfl, rfl, rfl, h1, r1⟩ := trodAll_cons r0
  obtain ⟨v2, vs2, d2, ds2, p2, q2, rfl, rfl, rfl, h2, r2⟩ := trodAll_cons r1
  obtain ⟨rfl, rfl, rfl⟩ := trodAll_nil r2
  obtain rfl : args = #[v0, v1, v2] := by cases args; simp_all
  obtain ⟨rfl, rfl⟩ := trodVars_none hV
  have hb0 : Rows.uptoBulkAll [d0, d1, d2] ≤ 1048576 := by simpa [Rows.uptoSmall] using hbk
  have hb0_ : Rows.uptoBulk d0 ≤ 1048576 := Nat.le_trans (bulk_part (by simp)) hb0
  obtain ⟨l0, hv0, hf0⟩ := open_views (hval 0 22 v0 rfl rfl) h0 hb0_
  have hb1_ : Rows.uptoBulk d1 ≤ 1048576 := Nat.le_trans (bulk_part (by simp)) hb0
  obtain ⟨l1, hv1, hf1⟩ := open_view (hval 1 47 v1 rfl rfl) h1 hb1_
  have hb2_ : Rows.uptoBulk d2 ≤ 1048576 := Nat.le_trans (bulk_part (by simp)) hb0
  obtain ⟨l2, hv2, hf2⟩ := open_view (hval 2 47 v2 rfl rfl) h2 hb2_
  clear hA0
  simp only [List.append_nil] at hW'
  have key := calls_start (P := Tryz.prog) (f := 9) (us := [slV vwC l0, vwV l1, vwV l2]) (r := .bool true) (args := #[v0, v1, v2]) W (@law_Sets9 (glOf W) (gtab_start hL) l0 l1 l2 hf0 hf1 hf2) (vrs_three hv0 hv1 hv2)
  refine key.mono ?_
  rintro e W' ⟨x, F', rfl, hx, hk, ho, hu, hsz, htp⟩
  obtain rfl := hx.bool_inv
  have bel : Below W.heap.size W W' := ⟨ho, htp, hu, hsz, hk⟩
  exact ⟨_, rfl, post_start2 (pa := (p0 ++ (p1 ++ (p2 ++ [])))) (pv := []) hW' (fun _ _ _ => trodAll_cons_mk (shut_bool Tryz.underlying4 _) trodAll_mk0) (fun hlt => trodAll_cons_mk (Below.trod laidOut (by kernel_rfl) (of_decide_eq_true (by kernel_rfl)) h0 bel (fun x hx => hlt x (by simp [hx]))) (trodAll_cons_mk (Below.trod laidOut (by kernel_rfl) (of_decide_eq_true (by kernel_rfl)) h1 bel (fun x hx => hlt x (by simp [hx]))) (trodAll_cons_mk (Below.trod laidOut (by kernel_rfl) (of_decide_eq_true (by kernel_rfl)) h2 bel (fun x hx => hlt x (by simp [hx]))) trodAll_mk0))) rfl (by simp)
    (kept_start _ hk ho hu)⟩
theorem reads (os : Os) {H : Type} (enc : TypeId × Value → H) : ∃ places, DataW.whole enc Tryz.prog ((laidWorld os).forCall (fun _ _ => 0) ⟨#[], #[.slice none 0 0, .agg #[.string ⟨#[]⟩, .int .i64 0, .int .i64 0, .slice none 0 0, .int .i64 0, .int .i64 0, .int .i64 0, .int .i64 0, .slice none 0 0, .bool false, .int .i64 0, .slice none 0 0, .int .i64 0, .slice none 0 0, .slice none 0 0, .string ⟨#[]⟩, .slice none 0 0], .agg #[.string ⟨#[]⟩, .int .i64 0, .int .i64 0, .slice none 0 0, .int .i64 0, .int .i64 0, .int .i64 0, .int .i64 0, .slice none 0 0, .bool false, .int .i64 0, .slice none 0 0, .int .i64 0, .slice none 0 0, .slice none 0 0, .string ⟨#[]⟩, .slice none 0 0]], []⟩).memory Tryz.f9.params.toList Rows.viewsSetsSpec.vars false #[(Value.slice none 0 0), (Value.agg #[.string ⟨#[]⟩, .int .i64 0, .int .i64 0, .slice none 0 0, .int .i64 0, .int .i64 0, .int .i64 0, .int .i64 0, .slice none 0 0, .bool false, .int .i64 0, .slice none 0 0, .int .i64 0, .slice none 0 0, .slice none 0 0, .string ⟨#[]⟩, .slice none 0 0]), (Value.agg #[.string ⟨#[]⟩, .int .i64 0, .int .i64 0, .slice none 0 0, .int .i64 0, .int .i64 0, .int .i64 0, .int .i64 0, .slice none 0 0, .bool false, .int .i64 0, .slice none 0 0, .int .i64 0, .slice none 0 0, .slice none 0 0, .string ⟨#[]⟩, .slice none 0 0])].toList 8 = some ([.nil, .agg [.lit (.string []), .agg [.lit (.int .i64 0), .lit (.int .i64 0), .nil, .lit (.int .i64 0), .lit (.int .i64 0), .agg [.lit (.int .i64 0), .lit (.int .i64 0)], .nil, .lit (.bool false), .lit (.int .i64 0), .nil, .agg [.lit (.int .i64 0), .nil, .nil], .lit (.string []), .nil]], .agg [.lit (.string []), .agg [.lit (.int .i64 0), .lit (.int .i64 0), .nil, .lit (.int .i64 0), .lit (.int .i64 0), .agg [.lit (.int .i64 0), .lit (.int .i64 0)], .nil, .lit (.bool false), .lit (.int .i64 0), .nil, .agg [.lit (.int .i64 0), .nil, .nil], .lit (.string []), .nil]]], [], places) :=
  ⟨[], by kernel_rfl⟩
set_option maxRecDepth 100000 in
theorem lifted (os : Os) (started : os.Started) (H : Type) (enc : TypeId × Value → H) (F : Stop.Interp) :
    ReturnsInHanded {} Tryz.checked os 9 .any ((Rows.OpenSpec.upto Rows.viewsSetsSpec).preRow enc Tryz.prog Tryz.f9 Rows.viewsSetsUptoRow.domain false Rows.viewsSetsUptoRow.laid) (((Rows.OpenSpec.upto Rows.viewsSetsSpec).at F).post enc Tryz.prog Tryz.f9 false true false false) := by
  obtain ⟨places, hx⟩ := reads os enc
  refine returnsInHanded_of_row (C := Tryz.checked) (s := Rows.OpenSpec.upto Rows.viewsSetsSpec) own started (by kernel_rfl) Tryz.func9
    (witness_row_atRef (enc := enc) (C := Tryz.checked) false (laidWorld os) #[.slice none 0 0, .agg #[.string ⟨#[]⟩, .int .i64 0, .int .i64 0, .slice none 0 0, .int .i64 0, .int .i64 0, .int .i64 0, .int .i64 0, .slice none 0 0, .bool false, .int .i64 0, .slice none 0 0, .int .i64 0, .slice none 0 0, .slice none 0 0, .string ⟨#[]⟩, .slice none 0 0], .agg #[.string ⟨#[]⟩, .int .i64 0, .int .i64 0, .slice none 0 0, .int .i64 0, .int .i64 0, .int .i64 0, .int .i64 0, .slice none 0 0, .bool false, .int .i64 0, .slice none 0 0, .int .i64 0, .slice none 0 0, .slice none 0 0, .string ⟨#[]⟩, .slice none 0 0]] rfl (by kernel_rfl) (by kernel_rfl) (by kernel_rfl)
      (OpenSpec.preRow_of_cond 8 hx (by kernel_rfl) (fun k hk => by cases hk; kernel_rfl) (by kernel_rfl) (laid_met os _))) ?_
  intro W base args ds gs before hval hW _ hcond _ hL hsh _
  exact contract H enc W base args ds gs before hval hW hL (hcond _ rfl)
theorem said : Rows.ViewsSetsUptoSaid :=
  OpenClaim.holds_of_cond 9 Tryz.f9 rfl rfl rfl rfl rfl rfl rfl ⟨rfl, rfl, rfl, rfl, rfl⟩ rfl rfl rfl rfl rfl (by kernel_rfl) Tryz.func9 closed
    (of_decide_eq_true (by kernel_rfl)) (by unfold Func.isWrapper; first | (rw [if_pos (by decide +kernel)]; kernel_rfl) | (rw [if_neg (by decide +kernel)]; exact ⟨rfl, rfl⟩))
    (fun os started H enc _ F => by rw [OpenClaim.pre_eq_preRow]; exact lifted os started H enc F)
theorem plain (f : FuncId) (fn : Func) (hf : Tryz.pinned.checked.prog.funcNamed "lookout/lookoutlaw46.ViewsSets" = some f) (hfn : Tryz.pinned.checked.prog.funcs[f]? = some fn) :
    false = Tryz.pinned.checked.prog.looks [] ∧ ∀ (j : Nat) t, fn.params[j]? = some t → Tryz.pinned.checked.prog.wantsStandIn t = false := by
  obtain rfl : f = 9 := Option.some.inj ((show Tryz.prog.funcNamed "lookout/lookoutlaw46.ViewsSets" = some 9 by kernel_rfl).symm.trans hf) |>.symm
  obtain rfl : fn = Tryz.f9 := (Option.some.inj (Tryz.func9.symm.trans hfn)).symm
  refine ⟨by kernel_rfl, fun j t ht => ?_⟩
  rw [Tryz.params9] at ht
  have hm : t = 22 ∨ t = 47 ∨ t = 47 := by simpa using Array.mem_of_getElem? ht
  rcases hm with rfl | rfl | rfl
  · exact (show Tryz.prog.wantsStandIn 22 = false by kernel_rfl)
  · exact (show Tryz.prog.wantsStandIn 47 = false by kernel_rfl)
  · exact (show Tryz.prog.wantsStandIn 47 = false by kernel_rfl)
end rsets
/-- The card. -/
theorem rsets_card : Rows.ViewsSetsUptoCardSaid :=
  Claim7.holds_tied_plain_at .later [] _ _ _ _ rsets.said (fun _ h => by cases h) (by kernel_rfl) (fun _ h => by cases h) viewsSetsUpto_row_tie rfl ⟨rfl, rfl⟩ (by kernel_rfl) rfl rsets.plain (by kernel_rfl)
end Go.Proofs.YtijfihbdcdkalaaGreatDoor
