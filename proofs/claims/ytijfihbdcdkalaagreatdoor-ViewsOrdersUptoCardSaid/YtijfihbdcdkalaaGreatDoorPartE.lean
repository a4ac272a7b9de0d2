/- A part of the proof: V79, V80, V81, V82 -/
import Derived.Test.YtijfihbdcdkalaaGreatDoorPartD
set_option linter.all false
set_option linter.unusedSectionVars false
set_option linter.unusedVariables false
set_option linter.unusedSimpArgs false
section
namespace Go.Proofs.YtijfihbdcdkalaaGreatDoor
open Go.Fw
variable [Gl]
set_option maxRecDepth 20000
set_option maxHeartbeats 4000000
theorem expP_facts {l : List Vw} {e : Ex} (ho : okVs l) (hoe : okE e) : okE (expP rxC l e).1 ∧ ((expP rxC l e).2 = 0 → chkE rxC (expP rxC l e).1 = 0) ∧ ((expP rxC l e).2 ≠ 0 → (expP rxC l e).1 = zroE) := by
  by_cases h : (expP rxC l e).2 = 0
  · obtain ⟨h1, h2, h3, h4, h5⟩ := expP_ok h
    rw [h5]
    exact ⟨okE_full h1 ho hoe h3, fun _ => h4, fun h => absurd rfl h⟩
  · have hz : (expP rxC l e).1 = zroE := by
      unfold expP at h ⊢
      split
      · rfl
      split
      · rfl
      split
      · rfl
      split
      · rfl
      · rename_i h1 h2 h3 h4
        rw [if_neg h1, if_neg h2, if_neg h3, if_neg h4] at h
        exact absurd rfl h
    rw [hz]
    exact ⟨by simp [zroE, okE, okEs, okMs, okN, okSs, okP, okPs, big], fun h' => absurd h' h, fun _ => rfl⟩
theorem ref_ExpandP (l : List Vw) (e : Ex) (ho : okVs l) (hoe : okE e) : Go.Fw.PTri Tryz.prog 16 [slV vwC l, exV e] (.tup [exV (expP rxC l e).1, nI (expP rxC l e).2]) := by
  obtain ⟨f, hf⟩ := expand_deep (rx := rxC) (l := l) (e := e)
  rw [← expandR_eq hf]
  exact ref_Expand ref_rx l e f ho hoe hf
theorem usesR_len (l : List Vw) (e : Ex) : (usesR rxC l e).1.length ≤ 50 := by
  by_cases h : (usesR rxC l e).2 = 0
  · obtain ⟨h1, h2, h3, h4⟩ := usesR_ok h
    rw [h4]
    have := nodup_le (b := nmsV l) (asc_nd (usR_asc l e)) fun t ht => ((usR_mem h1 (chk_wf h2) h3 t).1 ht).nm h1 h3
    have h5 := h1.len
    simp only [nmsV, List.length_map] at this
    dsimp only; omega
  · rw [usesR_no h]; simp
theorem law_Expand (hG : GTab) (l : List Vw) (e : Ex) (ho : okVs l) (hoe : okE e) : Go.Fw.PTri Tryz.prog 3 [slV vwC l, exV e] (.bool true) := by
  have hx := vw_Expand hG l e ho hoe
  have hy := ref_ExpandP l e ho hoe
  obtain ⟨f1, f2, f3⟩ := expP_facts ho hoe
  generalize expP rxC l e = p at hx hy f1 f2 f3
  obtain ⟨a, x⟩ := p
  dsimp only at hx hy f1 f2 f3
  have hu := vw_Uses hG l e ho hoe
  have hv := ref_Uses ref_rx l e ho hoe
  have hlen := usesR_len l e
  generalize usesR rxC l e = q at hu hv hlen
  obtain ⟨c, z⟩ := q
  dsimp only at hu hv hlen
  have hs := ref_same c c (by simp only [big]; omega) (by simp only [big]; omega)
  rw [beq_self_eq_true] at hs
  refine PTri.of_safe Tryz.func3 rfl Tryz.results3 Tryz.ntmps3 rfl ?_
  refine go 99 rfl ?_
  refine Safe.call (law_great46 l ho) rfl rfl rfl ?_
  refine go 99 rfl ?_
  refine Safe.gs rfl (fun c1 => ?_) (fun c1 => ?_)
  · refine go 99 rfl ?_
    refine Safe.call (law_awake hG) rfl rfl rfl ?_
    refine go 99 rfl ?_
    exact ⟨.inr rfl, trivial, .done (rfl) rfl⟩
  · refine go 99 rfl ?_
    refine Safe.call (g_great e hoe) rfl rfl rfl ?_
    refine go 99 rfl ?_
    refine Safe.br rfl (fun c2 => ?_) (fun c2 => ?_)
    · refine go 99 rfl ?_
      refine Safe.call (law_awake hG) rfl rfl rfl ?_
      refine go 99 rfl ?_
      exact ⟨.inr rfl, trivial, .done (rfl) rfl⟩
    · refine go 99 rfl ?_
      refine Safe.call (hx) rfl rfl rfl ?_
      refine go 99 rfl ?_
      refine Safe.call (hy) rfl rfl rfl ?_
      refine go 99 rfl ?_
      refine Safe.call (hu) rfl rfl rfl ?_
      refine go 99 rfl ?_
      refine Safe.call (hv) rfl rfl rfl ?_
      refine go 99 rfl ?_
      refine Safe.gsK true rfl (by simp) ?_
      refine go 99 rfl ?_
      refine Safe.gs rfl (fun d => ?_) (fun d => ?_)
      · have d1 : x = 0 := by simpa using d
        have he := ref_Equal ref_rx a a f1 f1
        rw [eqE_self (f2 d1)] at he
        refine go 99 rfl ?_
        refine Safe.call (he) rfl rfl rfl ?_
        refine go 99 rfl ?_
        first | refine Safe.gsK true rfl rfl ?_ | refine Safe.gsK false rfl rfl ?_ | refine Safe.brT rfl rfl ?_ | refine Safe.brF rfl rfl ?_
        refine go 99 rfl ?_
        refine Safe.call (hs) rfl rfl rfl ?_
        refine go 99 rfl ?_
        first | refine Safe.gsK true rfl rfl ?_ | refine Safe.gsK false rfl rfl ?_ | refine Safe.brT rfl rfl ?_ | refine Safe.brF rfl rfl ?_
        refine go 99 rfl ?_
        refine Safe.gsK true rfl (by simp) ?_
        refine go 99 rfl ?_
        refine Safe.call (law_awake hG) rfl rfl rfl ?_
        refine go 99 rfl ?_
        exact ⟨.inr rfl, trivial, .done (rfl) rfl⟩
      · have d1 : x ≠ 0 := by simpa using d
        obtain rfl := f3 d1
        refine go 99 rfl ?_
        refine Safe.gsK true rfl (by simpa using d1) ?_
        refine go 99 rfl ?_
        refine Safe.call (ref_Zero) rfl rfl rfl ?_
        refine go 99 rfl ?_
        first | refine Safe.gsK true rfl rfl ?_ | refine Safe.gsK false rfl rfl ?_ | refine Safe.brT rfl rfl ?_ | refine Safe.brF rfl rfl ?_
        refine go 99 rfl ?_
        refine Safe.call (hs) rfl rfl rfl ?_
        refine go 99 rfl ?_
        first | refine Safe.gsK true rfl rfl ?_ | refine Safe.gsK false rfl rfl ?_ | refine Safe.brT rfl rfl ?_ | refine Safe.brF rfl rfl ?_
        refine go 99 rfl ?_
        refine Safe.gsK true rfl (by simp) ?_
        refine go 99 rfl ?_
        refine Safe.call (law_awake hG) rfl rfl rfl ?_
        refine go 99 rfl ?_
        exact ⟨.inr rfl, trivial, .done (rfl) rfl⟩
end Go.Proofs.YtijfihbdcdkalaaGreatDoor
end

section
namespace Go.Proofs.YtijfihbdcdkalaaGreatDoor
open Go.Fw
variable [Gl]
set_option maxRecDepth 20000
set_option maxHeartbeats 4000000
theorem nil_arg {f : FuncId} {b r : V} (h : Go.Fw.PTri Tryz.prog f [.fslice [] 0, b] r) : Go.Fw.PTri Tryz.prog f [.nilslice, b] r :=
  Tri.weak h rfl fun i u u' h1 h2 => by
    match i with
    | 0 => simp at h1 h2; subst h1; subst h2; exact VLe.nils
    | 1 => simp at h1 h2; subst h1; subst h2; exact VLe.refl _
    | i + 2 => simp at h1
theorem okVs_nil : okVs [] := ⟨by simp, fun v h => by simp at h⟩
theorem law_Expanded (hG : GTab) (l : List Vw) (e : Ex) (ho : okVs l) (hoe : okE e) : Go.Fw.PTri Tryz.prog 5 [slV vwC l, exV e] (.bool true) := by
  have hx := vw_Expand hG l e ho hoe
  obtain ⟨f1, f2, f3⟩ := expP_facts ho hoe
  have hfac : (expP rxC l e).2 = 0 → hasV (expP rxC l e).1 = false ∧ (hasV e = false → (expP rxC l e).1 = e) ∧ expP rxC l (expP rxC l e).1 = ((expP rxC l e).1, 0) ∧ expP rxC [] (expP rxC l e).1 = ((expP rxC l e).1, 0) := fun h => by
    obtain ⟨h1, h2, h3, h4, h5⟩ := expP_ok h
    rw [h5]
    exact ⟨full_hasV h1 h3, fun hv => rpl_none _ _ hv, expP_again h (chkV_of h1), expP_again h chkV_nil⟩
  generalize expP rxC l e = p at hx f1 f2 f3 hfac
  obtain ⟨a, x⟩ := p
  dsimp only at hx f1 f2 f3 hfac
  refine PTri.of_safe Tryz.func5 rfl Tryz.results5 Tryz.ntmps5 rfl ?_
  refine go 99 rfl ?_
  refine Safe.call (law_great46 l ho) rfl rfl rfl ?_
  refine go 99 rfl ?_
  refine Safe.gs rfl (fun c1 => ?_) (fun c1 => ?_)
  · refine go 99 rfl ?_
    refine Safe.call (law_awake hG) rfl rfl rfl ?_
    refine go 99 rfl ?_
    exact ⟨.inr rfl, trivial, .done (rfl) rfl⟩
  · refine go 99 rfl ?_
    refine Safe.call (g_great e hoe) rfl rfl rfl ?_
    refine go 99 rfl ?_
    refine Safe.br rfl (fun c2 => ?_) (fun c2 => ?_)
    · refine go 99 rfl ?_
      refine Safe.call (law_awake hG) rfl rfl rfl ?_
      refine go 99 rfl ?_
      exact ⟨.inr rfl, trivial, .done (rfl) rfl⟩
    · refine go 99 rfl ?_
      refine Safe.call (hx) rfl rfl rfl ?_
      refine go 99 rfl ?_
      refine Safe.br rfl (fun c3 => ?_) (fun c3 => ?_)
      · refine go 99 rfl ?_
        refine Safe.call (law_awake hG) rfl rfl rfl ?_
        refine go 99 rfl ?_
        exact ⟨.inr rfl, trivial, .done (rfl) rfl⟩
      · have d1 : x = 0 := by simpa using c3
        subst d1
        obtain ⟨g1, g2, g3, g4⟩ := hfac rfl
        have ha := f2 rfl
        have hck := ref_chk ref_rx a f1
        rw [ha] at hck
        have hua := law_uses _ a (Nat.le_refl _) f1
        rw [g1] at hua
        have hue := law_uses _ e (Nat.le_refl _) hoe
        have he := ref_Equal ref_rx a a f1 f1
        rw [eqE_self ha] at he
        have hy := vw_Expand hG l a ho f1
        rw [g3] at hy
        have hz := nil_arg (vw_Expand hG [] a okVs_nil f1)
        rw [g4] at hz
        refine go 99 rfl ?_
        refine Safe.call (hck) rfl rfl rfl ?_
        refine go 99 rfl ?_
        first | refine Safe.gsK true rfl rfl ?_ | refine Safe.gsK false rfl rfl ?_ | refine Safe.brT rfl rfl ?_ | refine Safe.brF rfl rfl ?_
        refine go 99 rfl ?_
        refine Safe.call (hua) rfl rfl rfl ?_
        refine go 99 rfl ?_
        first | refine Safe.gsK true rfl rfl ?_ | refine Safe.gsK false rfl rfl ?_ | refine Safe.brT rfl rfl ?_ | refine Safe.brF rfl rfl ?_
        refine go 99 rfl ?_
        refine Safe.call (hue) rfl rfl rfl ?_
        refine go 99 rfl ?_
        refine Safe.gs rfl (fun d => ?_) (fun d => ?_)
        · have d2 : hasV e = false := by simpa using d
          obtain rfl := g2 d2
          refine go 99 rfl ?_
          refine Safe.call (he) rfl rfl rfl ?_
          refine go 99 rfl ?_
          first | refine Safe.gsK true rfl rfl ?_ | refine Safe.gsK false rfl rfl ?_ | refine Safe.brT rfl rfl ?_ | refine Safe.brF rfl rfl ?_
          refine go 99 rfl ?_
          refine Safe.call (hy) rfl rfl rfl ?_
          refine go 99 rfl ?_
          refine Safe.call (hz) rfl rfl rfl ?_
          refine go 99 rfl ?_
          first | refine Safe.gsK true rfl rfl ?_ | refine Safe.gsK false rfl rfl ?_ | refine Safe.brT rfl rfl ?_ | refine Safe.brF rfl rfl ?_
          refine go 99 rfl ?_
          first | refine Safe.gsK true rfl rfl ?_ | refine Safe.gsK false rfl rfl ?_ | refine Safe.brT rfl rfl ?_ | refine Safe.brF rfl rfl ?_
          refine go 99 rfl ?_
          refine Safe.call (he) rfl rfl rfl ?_
          refine go 99 rfl ?_
          first | refine Safe.gsK true rfl rfl ?_ | refine Safe.gsK false rfl rfl ?_ | refine Safe.brT rfl rfl ?_ | refine Safe.brF rfl rfl ?_
          refine go 99 rfl ?_
          refine Safe.call (he) rfl rfl rfl ?_
          refine go 99 rfl ?_
          first | refine Safe.gsK true rfl rfl ?_ | refine Safe.gsK false rfl rfl ?_ | refine Safe.brT rfl rfl ?_ | refine Safe.brF rfl rfl ?_
          refine go 99 rfl ?_
          refine Safe.call (law_awake hG) rfl rfl rfl ?_
          refine go 99 rfl ?_
          exact ⟨.inr rfl, trivial, .done (rfl) rfl⟩
        · refine go 99 rfl ?_
          refine Safe.call (hy) rfl rfl rfl ?_
          refine go 99 rfl ?_
          refine Safe.call (hz) rfl rfl rfl ?_
          refine go 99 rfl ?_
          first | refine Safe.gsK true rfl rfl ?_ | refine Safe.gsK false rfl rfl ?_ | refine Safe.brT rfl rfl ?_ | refine Safe.brF rfl rfl ?_
          refine go 99 rfl ?_
          first | refine Safe.gsK true rfl rfl ?_ | refine Safe.gsK false rfl rfl ?_ | refine Safe.brT rfl rfl ?_ | refine Safe.brF rfl rfl ?_
          refine go 99 rfl ?_
          refine Safe.call (he) rfl rfl rfl ?_
          refine go 99 rfl ?_
          first | refine Safe.gsK true rfl rfl ?_ | refine Safe.gsK false rfl rfl ?_ | refine Safe.brT rfl rfl ?_ | refine Safe.brF rfl rfl ?_
          refine go 99 rfl ?_
          refine Safe.call (he) rfl rfl rfl ?_
          refine go 99 rfl ?_
          first | refine Safe.gsK true rfl rfl ?_ | refine Safe.gsK false rfl rfl ?_ | refine Safe.brT rfl rfl ?_ | refine Safe.brF rfl rfl ?_
          refine go 99 rfl ?_
          refine Safe.call (law_awake hG) rfl rfl rfl ?_
          refine go 99 rfl ?_
          exact ⟨.inr rfl, trivial, .done (rfl) rfl⟩
end Go.Proofs.YtijfihbdcdkalaaGreatDoor
end

section
namespace Go.Proofs.YtijfihbdcdkalaaGreatDoor
open Go.Fw
variable [Gl]
set_option maxRecDepth 20000
set_option maxHeartbeats 4000000
theorem wk_arg2 {f : FuncId} {a b b' r : V} (h : Go.Fw.PTri Tryz.prog f [a, b'] r) (hb : VLe b b') : Go.Fw.PTri Tryz.prog f [a, b] r :=
  Tri.weak h rfl fun i u u' h1 h2 => by
    match i with
    | 0 => simp at h1 h2; subst h1; subst h2; exact VLe.refl _
    | 1 => simp at h1 h2; subst h1; subst h2; exact hb
    | i + 2 => simp at h1
theorem law_Substitutes (hG : GTab) (l : List Vw) (e : Ex) (ho : okVs l) (hoe : okE e) : Go.Fw.PTri Tryz.prog 4 [slV vwC l, exV e] (.bool true) := by
  have hl := ho.1
  simp only [big] at hl
  refine PTri.of_safe Tryz.func4 rfl Tryz.results4 Tryz.ntmps4 rfl ?_
  refine go 99 rfl ?_
  refine Safe.call (law_great46 l ho) rfl rfl rfl ?_
  refine go 99 rfl ?_
  refine Safe.gs rfl (fun c1 => ?_) (fun c1 => ?_)
  · refine go 99 rfl ?_
    refine Safe.call (law_awake hG) rfl rfl rfl ?_
    refine go 99 rfl ?_
    exact ⟨.inr rfl, trivial, .done (rfl) rfl⟩
  · refine go 99 rfl ?_
    refine Safe.call (g_great e hoe) rfl rfl rfl ?_
    refine go 99 rfl ?_
    refine Safe.br rfl (fun c2 => ?_) (fun c2 => ?_)
    · refine go 99 rfl ?_
      refine Safe.call (law_awake hG) rfl rfl rfl ?_
      refine go 99 rfl ?_
      exact ⟨.inr rfl, trivial, .done (rfl) rfl⟩
    · refine go 99 rfl ?_
      refine Safe.loop (α := Nat) (fun i => [(0, slV vwC l), (3, .ptr 0 0), (25, slV vwC l), (26, nI l.length), (27, nI i)]) (fun i => [(0, .cells 34 (exC e) 16)]) 1 (fun i => l.length - i) (fun i => i ≤ l.length) 0 (sgI 1) ⟨⟨fit rfl, fit rfl, fit rfl, fit rfl, fit rfl, trivial⟩, ⟨_, .refl _, .refl _⟩, rfl⟩ (Nat.zero_le _) ?_
      rintro i hi
      refine go 99 rfl ?_
      refine Safe.br rfl (fun c3 => ?_) (fun c3 => ?_)
      · have hi : i < l.length := ltc c3
        have hv := ho.2 _ (List.getElem_mem hi)
        have hx := vw_Expand hG l (vwX l[i].name) ho (okE_vwX hv.1)
        have hy := vw_Expand hG l l[i].expr ho hv.2
        rw [expP_sub (List.getElem_mem hi)] at hx
        obtain ⟨f1, f2, f3⟩ := expP_facts ho hv.2
        generalize expP rxC l l[i].expr = p at hx hy f1 f2 f3
        obtain ⟨a, x⟩ := p
        dsimp only at hx hy f1 f2 f3
        refine go 99 rfl ?_
        refine Safe.idxF hi rfl rfl rfl ?_
        refine go 99 rfl ?_
        refine Safe.ldF (ldVw hi) rfl rfl rfl ?_
        refine go 99 rfl ?_
        refine Safe.call (law_view l[i].name) rfl rfl rfl ?_
        refine go 99 rfl ?_
        refine Safe.call (hx) rfl rfl rfl ?_
        refine go 99 rfl ?_
        refine Safe.call (hy) rfl rfl rfl ?_
        refine go 99 rfl ?_
        refine Safe.gsK false rfl (by simp) ?_
        refine go 99 rfl ?_
        refine Safe.gs rfl (fun d => ?_) (fun d => ?_)
        · have d1 : x = 0 := by simpa using d
          have he := ref_Equal ref_rx a a f1 f1
          rw [eqE_self (f2 d1)] at he
          refine go 99 rfl ?_
          refine Safe.call (he) rfl rfl rfl ?_
          refine go 99 rfl ?_
          first | refine Safe.gsK true rfl rfl ?_ | refine Safe.gsK false rfl rfl ?_ | refine Safe.brT rfl rfl ?_ | refine Safe.brF rfl rfl ?_
          refine go 99 rfl ?_
          exact ⟨sgI 1, i + 1, hi, mlt hi, rfl, rfl, ⟨fit rfl, fit rfl, fit rfl, fit rfl, fit (isucc (by omega)), trivial⟩, ⟨_, .refl _, subD (subD (subD (subK rfl rfl subN)))⟩, rfl⟩
        · refine go 99 rfl ?_
          exact ⟨sgI 1, i + 1, hi, mlt hi, rfl, rfl, ⟨fit rfl, fit rfl, fit rfl, fit rfl, fit (isucc (by omega)), trivial⟩, ⟨_, .refl _, subD (subD (subD (subK rfl rfl subN)))⟩, rfl⟩
      · have hE := vw_Expand hG l e ho hoe
        obtain ⟨f1, f2, f3⟩ := expP_facts ho hoe
        have hfac : (expP rxC l e).2 = 0 → e.kind ≠ 13 → (∀ a ∈ e.args, expP rxC l a = (full l a, 0)) ∧ (expP rxC l e).1 = { e with args := e.args.map (full l) } := fun h hk => by
          refine ⟨fun a ha => expP_arg h hk ha, ?_⟩
          obtain ⟨_, _, _, _, h5⟩ := expP_ok h
          rw [h5]; exact full_arg hk
        generalize expP rxC l e = p at hE f1 f2 f3 hfac
        obtain ⟨a, x⟩ := p
        dsimp only at hE f1 f2 f3 hfac
        refine go 99 rfl ?_
        refine Safe.call (hE) rfl rfl rfl ?_
        refine go 99 rfl ?_
        refine Safe.gs rfl (fun d => ?_) (fun d => ?_)
        · refine go 99 rfl ?_
          refine Safe.call (law_awake hG) rfl rfl rfl ?_
          refine go 99 rfl ?_
          exact ⟨.inr rfl, trivial, .done (rfl) rfl⟩
        · have d1 : x = 0 := by simpa using d
          subst d1
          refine go 99 rfl ?_
          refine Safe.br rfl (fun k => ?_) (fun k => ?_)
          · refine go 99 rfl ?_
            refine Safe.call (law_awake hG) rfl rfl rfl ?_
            refine go 99 rfl ?_
            exact ⟨.inr rfl, trivial, .done (rfl) rfl⟩
          · have k1 : e.kind ≠ 13 := by simpa using k
            obtain ⟨g1, rfl⟩ := hfac rfl k1
            have hoe' := hoe
            rw [okE_eq] at hoe'
            obtain ⟨_, _, _, _, _, hal, hos⟩ := hoe'
            simp only [big] at hal
            refine go 99 rfl ?_
            refine Safe.loop (α := (Nat × List Ex × Option Nat)) (fun b => [(0, slV vwC l), (11, .ptr 1 0), (13, .ptr 2 0), (77, slV exL e.args), (78, nI e.args.length), (79, nI b.1)]) (fun b => [(2, .cells 34 (exD e (gV 3 b.1 b.2.2)) 16), (1, .cells 34 (exC { e with args := e.args.map (full l) }) 16), (0, .cells 34 (exC e) 16)] ++ gH 34 16 3 (cat exL b.2.1) b.2.2) 4 (fun b => e.args.length - b.1) (fun b => b.1 ≤ e.args.length ∧ b.2.1 = (e.args.take b.1).map (full l) ∧ (b.2.2 = none → b.1 = 0)) (0, [], none) (sgI 3) ⟨⟨fit rfl, fit rfl, fit rfl, fit rfl, fit rfl, fit rfl, trivial⟩, ⟨_, .refl _, subK rfl rfl (subK rfl rfl (subK rfl rfl subN))⟩, rfl⟩ ⟨Nat.zero_le _, rfl, fun _ => rfl⟩ ?_
            rintro ⟨i, acc, G⟩ ⟨hi, hacc, hG0⟩
            dsimp only at hi hacc hG0
            have hlen : acc.length = i := by rw [hacc]; simp; omega
            have hnil : G = none → acc = [] := fun h => List.length_eq_zero_iff.1 (by rw [hlen]; exact hG0 h)
            refine go 99 rfl ?_
            refine Safe.br rfl (fun c4 => ?_) (fun c4 => ?_)
            · have hi : i < e.args.length := ltc c4
              have hb := vw_Expand hG l e.args[i] ho (okEs_get hos hi)
              rw [g1 _ (List.getElem_mem hi)] at hb
              refine go 99 rfl ?_
              refine Safe.idxF hi rfl rfl rfl ?_
              refine go 99 rfl ?_
              refine Safe.ldF (ldEx hi) rfl rfl rfl ?_
              refine go 99 rfl ?_
              refine Safe.call (hb) rfl rfl rfl ?_
              refine go 99 rfl ?_
              first | refine Safe.gsK true rfl rfl ?_ | refine Safe.gsK false rfl rfl ?_ | refine Safe.brT rfl rfl ?_ | refine Safe.brF rfl rfl ?_
              refine go 99 rfl ?_
              refine Safe.appH (k := 3) (G := G) (cs := cat exL acc) (len := i) (us := exC (full l e.args[i])) (h1 := [(6, .cells 34 (exC (full l e.args[i])) 16), (5, .cells 34 (exC (full l e.args[i])) 16), (4, .cells 34 (exC e.args[i]) 16), (2, .cells 34 (exD e (gV 3 i G)) 16), (1, .cells 34 (exC { e with args := e.args.map (full l) }) 16), (0, .cells 34 (exC e) 16)]) (h2 := []) rfl (by simp [Hp.ns]) (fun h => ⟨by rw [hnil h]; rfl, hG0 h⟩) (by rw [List.append_nil]; rfl) rfl rfl rfl rfl rfl (by decide) rfl (by rw [catEx_len, hlen]; rfl) rfl rfl (by omega) (fun N' hN' => ?_)
              refine Safe.hpO (h' := [(7, .cells 34 (cat exL (acc ++ [full l e.args[i]])) (N' * 16)), (6, .cells 34 (exC (full l e.args[i])) 16), (5, .cells 34 (exC (full l e.args[i])) 16), (4, .cells 34 (exC e.args[i]) 16), (2, .cells 34 (exD e (gV 3 i G)) 16), (1, .cells 34 (exC { e with args := e.args.map (full l) }) 16), (0, .cells 34 (exC e) 16)]) (by rw [← catEx_app]; rfl) ?_
              refine go 99 rfl ?_
              exact ⟨[(0, 0), (1, 1), (2, 2), (3, 7)], (i + 1, acc ++ [full l e.args[i]], some N'), ⟨hi, by dsimp only; rw [hacc, take_succ_get hi, List.map_append]; rfl, fun h => by cases h⟩, mlt hi, rfl, rfl, ⟨fit rfl, fit rfl, fit rfl, fit rfl, fit rfl, fit (isucc (by omega)), trivial⟩, ⟨_, permL (a := [_, _, _, _, _, _]) (b := [_]), subD (subD (subD (subK rfl rfl (subK rfl rfl (subK rfl rfl (subK rfl (renO_dry (catEx_d _)) subN))))))⟩, rfl⟩
            · have hi2 : i = e.args.length := Nat.le_antisymm hi (gec c4)
              have hw : ({ e with args := e.args.map (full l) } : Ex) = { e with args := acc } := by rw [hacc, hi2, List.take_length]
              rw [hw] at f1 f2
              have he := ref_Equal ref_rx { e with args := acc } { e with args := acc } f1 f1
              rw [eqE_self (f2 rfl)] at he
              rw [hw]
              cases G with
              | none =>
                have h0 := hG0 rfl
                subst h0
                have ha0 : acc = [] := List.length_eq_zero_iff.1 hlen
                subst ha0
                have he2 : Go.Fw.PTri Tryz.prog 19 [exV { e with args := [] }, .agg (exD e .nilslice)] (.bool true) := wk_arg2 he (wkE rfl)
                refine go 99 rfl ?_
                refine Safe.call (he2) rfl rfl rfl ?_
                refine go 99 rfl ?_
                first | refine Safe.gsK true rfl rfl ?_ | refine Safe.gsK false rfl rfl ?_ | refine Safe.brT rfl rfl ?_ | refine Safe.brF rfl rfl ?_
                refine go 99 rfl ?_
                refine Safe.call (law_awake hG) rfl rfl rfl ?_
                refine go 99 rfl ?_
                exact ⟨.inr rfl, trivial, .done (rfl) rfl⟩
              | some N =>
                subst hlen
                refine Safe.frzC 3 rfl (catEx_dry _) ?_
                refine go 99 rfl ?_
                refine Safe.call (he) rfl rfl rfl ?_
                refine go 99 rfl ?_
                first | refine Safe.gsK true rfl rfl ?_ | refine Safe.gsK false rfl rfl ?_ | refine Safe.brT rfl rfl ?_ | refine Safe.brF rfl rfl ?_
                refine go 99 rfl ?_
                refine Safe.call (law_awake hG) rfl rfl rfl ?_
                refine go 99 rfl ?_
                exact ⟨.inr rfl, trivial, .done (rfl) rfl⟩
end Go.Proofs.YtijfihbdcdkalaaGreatDoor
end

section
namespace Go.Proofs.YtijfihbdcdkalaaGreatDoor
open Go.Fw
variable [Gl]
set_option maxRecDepth 20000
set_option maxHeartbeats 4000000
theorem asc_at {l : List Vw} (h : VOk rxC l) {i : Nat} (h0 : 0 < i) (hi : i < l.length) : Op.bytesLess (l[i - 1]'(by omega)).name l[i].name = true := by
  have := h.ascV
  rw [List.pairwise_iff_getElem] at this
  exact (bl_iff _ _).2 (this (i - 1) i (by omega) hi (by omega))
theorem nn_lt (k : Nat) : decide ((k : Int) < 0) = false := decide_eq_false (Int.not_lt.2 (Int.natCast_nonneg k))
theorem law_Orders (hG : GTab) (l : List Vw) (ho : okVs l) : Go.Fw.PTri Tryz.prog 6 [slV vwC l] (.bool true) := by
  have hl := ho.1
  simp only [big] at hl
  have hO := vw_Order hG l ho
  refine PTri.of_safe Tryz.func6 rfl Tryz.results6 Tryz.ntmps6 rfl ?_
  refine go 99 rfl ?_
  refine Safe.call (law_great46 l ho) rfl rfl rfl ?_
  refine go 99 rfl ?_
  refine Safe.br rfl (fun c1 => ?_) (fun c1 => ?_)
  · refine go 99 rfl ?_
    refine Safe.call (law_awake hG) rfl rfl rfl ?_
    refine go 99 rfl ?_
    exact ⟨.inr rfl, trivial, .done (rfl) rfl⟩
  · by_cases hc : chkV rxC l = 0
    · have hV := chkV_ok hc
      have h50 := hV.len
      have hol := hV.olen
      rw [show ordR rxC l = (ordV l, 0) by rw [ordR, if_neg (by simp [hc])]] at hO
      refine go 99 rfl ?_
      refine Safe.call (hO) rfl rfl rfl ?_
      refine go 99 rfl ?_
      first | refine Safe.gsK true rfl rfl ?_ | refine Safe.gsK false rfl rfl ?_ | refine Safe.brT rfl rfl ?_ | refine Safe.brF rfl rfl ?_
      refine go 99 rfl ?_
      refine Safe.brF rfl (by simp [hol]) ?_
      refine go 99 rfl ?_
      refine Safe.loop (α := Nat) (fun i => [(0, slV vwC l), (3, slV strC (ordV l)), (40, slV vwC l), (41, nI l.length), (42, nI i)]) (fun i => []) 0 (fun i => l.length - i) (fun i => i ≤ l.length) 0 (sgI 0) ⟨⟨fit rfl, fit rfl, fit rfl, fit rfl, fit rfl, trivial⟩, ⟨_, .refl _, List.nil_sublist _⟩, rfl⟩ (Nat.zero_le _) ?_
      rintro i hi
      refine go 99 rfl ?_
      refine Safe.br rfl (fun c3 => ?_) (fun c3 => ?_)
      · have hi : i < l.length := ltc c3
        have hm := List.getElem_mem hi
        have hv := ho.2 _ hm
        obtain ⟨k, hk, hr⟩ := hV.ix hm
        have hwf := hV.wf hm
        have hus := usR_mem hV hwf (hV.cov _ hm)
        have hix := sl_index (ordV l) l[i].name (by omega)
        rw [hk] at hix
        have hU := vw_Uses hG l l[i].expr ho hv.2
        have hul := usesR_len l l[i].expr
        rw [usesR_at hc (hV.ck _ hm) (hV.cov _ hm)] at hU hul
        have hct := sl_contains (usR l l[i].expr) l[i].name (by dsimp only at hul; omega)
        have hno : (usR l l[i].expr).contains l[i].name = false := by
          rw [List.contains_eq_mem, decide_eq_false_iff_not]
          exact fun h => (hr _ ((hus _).1 h)).1 rfl
        rw [hno] at hct
        dsimp only at hul hU
        refine go 99 rfl ?_
        refine Safe.idxF hi rfl rfl rfl ?_
        refine go 99 rfl ?_
        refine Safe.ldF (ldVw hi) rfl rfl rfl ?_
        refine go 99 rfl ?_
        refine Safe.call (hix) rfl rfl rfl ?_
        refine go 99 rfl ?_
        refine Safe.call (hU) rfl rfl rfl ?_
        refine go 99 rfl ?_
        refine Safe.gsK false rfl (nn_lt k) ?_
        refine go 99 rfl ?_
        first | refine Safe.gsK true rfl rfl ?_ | refine Safe.gsK false rfl rfl ?_ | refine Safe.brT rfl rfl ?_ | refine Safe.brF rfl rfl ?_
        refine go 99 rfl ?_
        refine Safe.call (hct) rfl rfl rfl ?_
        refine go 99 rfl ?_
        first | refine Safe.gsK true rfl rfl ?_ | refine Safe.gsK false rfl rfl ?_ | refine Safe.brT rfl rfl ?_ | refine Safe.brF rfl rfl ?_
        refine go 99 rfl ?_
        refine Safe.loop (α := Nat) (fun j => [(0, slV vwC l), (3, slV strC (ordV l)), (5, nI i), (6, .ptr 0 0), (7, nI k), (40, slV vwC l), (41, nI l.length), (42, nI i), (70, slV strC (usR l l[i].expr)), (71, nI (usR l l[i].expr).length), (72, nI j)]) (fun j => [(0, .cells 47 (vwC l[i]) 17)]) 1 (fun j => (usR l l[i].expr).length - j) (fun j => j ≤ (usR l l[i].expr).length) 0 (sgI 1) ⟨⟨fit rfl, fit rfl, fit rfl, fit rfl, fit rfl, fit rfl, fit rfl, fit rfl, fit rfl, fit rfl, fit rfl, trivial⟩, ⟨_, .refl _, .refl _⟩, rfl⟩ (Nat.zero_le _) ?_
        rintro j hj
        refine go 99 rfl ?_
        refine Safe.br rfl (fun c4 => ?_) (fun c4 => ?_)
        · have hj : j < (usR l l[i].expr).length := ltc c4
          obtain ⟨_, q, hq, hqk⟩ := hr _ ((hus _).1 (List.getElem_mem hj))
          have hix2 := sl_index (ordV l) (usR l l[i].expr)[j] (by omega)
          rw [hq] at hix2
          refine go 99 rfl ?_
          refine Safe.idxF hj rfl rfl rfl ?_
          refine go 99 rfl ?_
          refine Safe.ldF (ldStr hj) rfl rfl rfl ?_
          refine go 99 rfl ?_
          refine Safe.call (hix2) rfl rfl rfl ?_
          refine go 99 rfl ?_
          refine Safe.gsK false rfl (nn_lt q) ?_
          refine go 99 rfl ?_
          refine Safe.brF rfl (by rw [decide_eq_false_iff_not]; omega) ?_
          refine go 99 rfl ?_
          exact ⟨sgI 1, j + 1, hj, mlt hj, rfl, rfl, ⟨fit rfl, fit rfl, fit rfl, fit rfl, fit rfl, fit rfl, fit rfl, fit rfl, fit rfl, fit rfl, fit (isucc (by omega)), trivial⟩, ⟨_, .refl _, .refl _⟩, rfl⟩
        · refine go 99 rfl ?_
          refine Safe.drawP mixed [0, 1, 2, 3, 4, 5, 6, 7, 8, 9, 10, 11, 12] [(true, true), (true, true), (true, true), (true, true), (true, true), (true, true), (true, true), (true, true), (true, true), (true, true), (true, true), (true, true), (true, true)] (by kernel_rfl) ?_
          refine go 99 rfl ?_
          refine Safe.gs rfl (fun z => ?_) (fun z => ?_)
          · have h0 : 0 < i := by have := of_decide_eq_true z; omega
            refine go 99 rfl ?_
            refine Safe.idxF (i := i - 1) (by omega) (isub h0 (by omega)) rfl rfl ?_
            refine go 99 rfl ?_
            refine Safe.ldF (ldVwN (by omega)) rfl rfl rfl ?_
            refine go 99 rfl ?_
            refine Safe.brF rfl (by rw [asc_at hV h0 hi]; rfl) ?_
            refine go 99 rfl ?_
            exact ⟨sgI 0, i + 1, hi, mlt hi, rfl, rfl, ⟨fit rfl, fit rfl, fit rfl, fit rfl, fit (isucc (by omega)), trivial⟩, ⟨_, .refl _, List.nil_sublist _⟩, rfl⟩
          · refine go 99 rfl ?_
            exact ⟨sgI 0, i + 1, hi, mlt hi, rfl, rfl, ⟨fit rfl, fit rfl, fit rfl, fit rfl, fit (isucc (by omega)), trivial⟩, ⟨_, .refl _, List.nil_sublist _⟩, rfl⟩
      · refine go 99 rfl ?_
        refine Safe.call (law_awake hG) rfl rfl rfl ?_
        refine go 99 rfl ?_
        exact ⟨.inr rfl, trivial, .done (rfl) rfl⟩
    · have hC := vw_Check hG l ho
      rw [ordR_e hc] at hO
      refine go 99 rfl ?_
      refine Safe.call (hO) rfl rfl rfl ?_
      refine go 99 rfl ?_
      refine Safe.brT rfl (by simpa using hc) ?_
      refine go 99 rfl ?_
      first | refine Safe.gsK true rfl rfl ?_ | refine Safe.gsK false rfl rfl ?_ | refine Safe.brT rfl rfl ?_ | refine Safe.brF rfl rfl ?_
      refine go 99 rfl ?_
      refine Safe.call (hC) rfl rfl rfl ?_
      refine go 99 rfl ?_
      refine Safe.gsK true rfl (by simp) ?_
      refine go 99 rfl ?_
      refine Safe.call (law_awake hG) rfl rfl rfl ?_
      refine go 99 rfl ?_
      exact ⟨.inr rfl, trivial, .done (rfl) rfl⟩
end Go.Proofs.YtijfihbdcdkalaaGreatDoor
end
