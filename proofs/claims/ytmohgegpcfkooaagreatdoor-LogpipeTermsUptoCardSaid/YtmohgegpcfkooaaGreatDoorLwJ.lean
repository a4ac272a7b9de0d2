/- A part of the proof: LwJ -/
import Derived.Test.YtmohgegpcfkooaaGreatDoorLwG
import Derived.KernelRfl
set_option linter.all false
set_option linter.unusedSectionVars false
set_option linter.unusedVariables false
set_option linter.unusedSimpArgs false
namespace Go.Fw
variable [Gl]
variable {P : Program} {ρr : Option Nat} {n nb : Nat} {Q : LPo} {arr : Array Oper} {o : Oper} {os : List Oper} {κ : List Kt} {kn : Kn} {m : Fl} {h hf : Hp} {nx : Nat} {dl : List Nat} {fu : Nat} {L : List Nat}
variable {K : KD}
theorem Safe.draw {id : Nat} (hm : P.follows .mixedOrders = true) (hs : DS nb P ρr n arr arr.size [] kn m h nx hf fun kn m h nx hf => Safe nb P ρr n Q (lv .normal κ kn m h nx hf dl)) : Safe nb P ρr n Q (.code (.region id arr true) κ kn m h nx hf dl) := by
  intro hk ρ hg F w tm ho hfr
  refine WC.region_draw hm ?_ F w tm ho hfr
  have := hs hk ρ hg ho.nodup (vldT_of hfr)
  refine wA_mono ?_ _ _ _ _ this
  rintro t' h' ⟨ρ', kn', m', h2, nx', hf', a, g, en, hk', q⟩
  exact ⟨ρ', m', h2, nx', hf', a, g, en, lv_sound κ .normal hk' q⟩
theorem gsO_S (hk : KnOk kn m) {ρ : Nat → Option Nat} (hg : gsO arr kn m o = .run) : gdS arr (renT ρ m) o true := gdL_S (gsO_run hk hg)
theorem gsO_N (hk : KnOk kn m) {ρ : Nat → Option Nat} (hg : gsO arr kn m o = .skip) : gdS arr (renT ρ m) o false := gdL_S (gsO_skip hk hg)
theorem chkO_any {i : Nat} (hc : chkO arr L i = true) : chk arr L i (descs arr i) anyO = true := by
  unfold chkO at hc
  split at hc
  · rename_i o ho
    simp only [Bool.and_eq_true] at hc
    have h2 := hc.2
    unfold chk at h2 ⊢
    simp only [ho, Bool.and_eq_true] at h2 ⊢
    refine ⟨h2.1, ?_⟩
    rw [List.all_eq_true]
    intro j hj
    have := List.all_eq_true.1 h2.2 j hj
    cases hoj : arr[j]? with
    | none => rw [hoj] at this; simp
    | some oj =>
      rw [hoj] at this
      simp only [Bool.or_eq_true, Bool.and_eq_true] at this ⊢
      rcases this with h | h
      · exact .inl h
      · exact .inr ⟨h.1, rfl⟩
  · simp at hc
theorem renT_c {ρ : Nat → Option Nat} {m : Fl} {d : Nat} {v : V} : upd (renT ρ m) d (renV ρ v) = renT ρ ((d, v) :: m) := (renT_cons ρ m d v).symm
theorem vldT.cons {ρ : Nat → Option Nat} {m : Fl} {d : Nat} {v : V} (ht : vldT ρ m) (hv : vld ρ v) : vldT ρ ((d, v) :: m) := fun i u hu => by
  simp only [lk] at hu
  cases hb : Nat.beq i d with
  | true => rw [hb] at hu; simp only [cond_true, Option.some.injEq] at hu; subst hu; exact hv
  | false => rw [hb] at hu; exact ht i u hu
theorem DS.val {i d : Nat} {v : V} (hv : ∀ ρ, (renH ρ h ++ hf).ns.Nodup → vldT ρ m → evP P (renT ρ m) (renH ρ h ++ hf) o = some (renV ρ v)) (ho : arr.toList[i]? = some o) (hr : rdyO arr kn m n o = some d) (hvl : vldB h v = true) (hfu : Nat.blt 0 fu = true) (hc : chkO arr L i = true)
    (hs : DS nb P ρr n arr (fu - 1) (i :: L) ((d, none) :: kn) ((d, v) :: m) h nx hf K) : DS nb P ρr n arr fu L kn m h nx hf K := by
  obtain ⟨f, rfl⟩ : ∃ f, fu = f + 1 := ⟨fu - 1, by have := blt_lt hfu; omega⟩
  intro hk ρ hg hn ht
  obtain ⟨hgd, hd, hlt⟩ := rdyO_run hk hr
  rw [Array.getElem?_toList] at ho
  refine wA.pure ho hd hlt (gdL_S hgd) (hv ρ hn ht) hc ?_
  rw [renT_c]
  exact hs (hk.cons fun b hb => by simp at hb) ρ hg hn (ht.cons (hg.vld hvl))
inductive XD where
  | mk (acc rest : List Nat) (kn : Kn) (m : Fl)
  | no
def XD.acc : XD → List Nat
  | .mk a _ _ _ => a
  | .no => []
def XD.kns : XD → Kn
  | .mk _ _ a _ => a
  | .no => []
def XD.ms : XD → Fl
  | .mk _ _ _ a => a
  | .no => []
@[simp] theorem XD.acc_mk (a r : List Nat) (kn : Kn) (m : Fl) : (XD.mk a r kn m).acc = a := rfl
@[simp] theorem XD.kn_mk (a r : List Nat) (kn : Kn) (m : Fl) : (XD.mk a r kn m).kns = kn := rfl
@[simp] theorem XD.m_mk (a r : List Nat) (kn : Kn) (m : Fl) : (XD.mk a r kn m).ms = m := rfl
def xD (P : Program) (n : Nat) (arr : Array Oper) : List Nat → List Nat → Kn → Fl → Hp → XD
  | [], acc, kn, m, h => .mk acc [] kn m
  | i :: is, acc, kn, m, h => match arr.toList[i]? with
    | some o => match gsO arr kn m o with
      | .run => match xK P kn m h o with
        | some v => match vldB h v with
          | true => match o.dst with
            | some d => match Nat.blt d n with
              | true => fK (kadd kn d (knO kn o)) fun kn => xD P n arr is (i :: acc) kn ((d, v) :: m) h
              | false => .mk acc (i :: is) kn m
            | none => .mk acc (i :: is) kn m
          | false => .mk acc (i :: is) kn m
        | none => .mk acc (i :: is) kn m
      | .skip => match o.dst with
        | some d => match Nat.blt d n with
          | true => fK (kadd kn d none) fun kn => xD P n arr is (i :: acc) kn ((d, .tup []) :: m) h
          | false => .mk acc (i :: is) kn m
        | none => .mk acc (i :: is) kn m
      | .unk => .mk acc (i :: is) kn m
    | none => .mk acc (i :: is) kn m
def chkSeq (arr : Array Oper) : List Nat → List Nat → Bool
  | [], L => true
  | i :: acc, L => chkSeq arr acc L && chkO arr (acc ++ L) i
theorem chkSeq_suf {xs ys : List Nat} (h : chkSeq arr (xs ++ ys) L = true) : chkSeq arr ys L = true := by
  induction xs with
  | nil => exact h
  | cons x r ih => simp only [List.cons_append, chkSeq, Bool.and_eq_true] at h; exact ih h.1
theorem xD_acc : ∀ (is acc : List Nat) (kn : Kn) (m : Fl), ∃ xs, (xD P n arr is acc kn m h).acc = xs ++ acc
  | [], acc, kn, m => ⟨[], rfl⟩
  | i :: is, acc, kn, m => by
    simp only [xD, fK_eq]
    repeat' split
    all_goals first
      | exact ⟨[], rfl⟩
      | (obtain ⟨xs, hx⟩ := xD_acc is (i :: acc) _ _; exact ⟨xs ++ [i], by rw [hx]; simp⟩)
theorem xD_sound : ∀ (is acc : List Nat) (kn : Kn) (m : Fl) (fu fu' : Nat), chkSeq arr (xD P n arr is acc kn m h).acc L = true → (xD P n arr is acc kn m h).acc.length + fu' = acc.length + fu →
    DS nb P ρr n arr fu' ((xD P n arr is acc kn m h).acc ++ L) (xD P n arr is acc kn m h).kns (xD P n arr is acc kn m h).ms h nx hf K → DS nb P ρr n arr fu (acc ++ L) kn m h nx hf K
  | [], acc, kn, m, fu, fu', hc, hl, hs => by
    simp only [xD] at hc hl hs
    obtain rfl : fu' = fu := by simp only [XD.acc_mk] at hl; omega
    exact hs
  | i :: is, acc, kn, m, fu, fu', hc, hl, hs => by
    have stop : (XD.mk acc (i :: is) kn m).acc.length + fu' = acc.length + fu → DS nb P ρr n arr fu' (acc ++ L) kn m h nx hf K → DS nb P ρr n arr fu (acc ++ L) kn m h nx hf K := fun e hs => by
      obtain rfl : fu' = fu := by simp only [XD.acc_mk] at e; omega
      exact hs
    simp only [xD, fK_eq] at hc hl hs
    split at hs
    · rename_i o ho
      simp only [ho] at hc hl
      rw [Array.getElem?_toList] at ho
      split at hs
      · rename_i hg
        simp only [hg] at hc hl
        split at hs
        · rename_i v hv
          simp only [hv] at hc hl
          split at hs
          · rename_i hvl
            simp only [hvl] at hc hl
            split at hs
            · rename_i d hd
              simp only [hd] at hc hl
              split at hs
              · rename_i hlt
                simp only [hlt] at hc hl
                obtain ⟨xs, hx⟩ := xD_acc (P := P) (n := n) (arr := arr) (h := h) is (i :: acc) (kadd kn d (knO kn o)) ((d, v) :: m)
                have hc2 : chkO arr (acc ++ L) i = true := by
                  rw [hx] at hc
                  have := chkSeq_suf hc
                  simp only [chkSeq, Bool.and_eq_true] at this
                  exact this.2
                obtain ⟨f2, rfl⟩ : ∃ f2, fu = f2 + 1 := ⟨fu - 1, by rw [hx] at hl; simp at hl; omega⟩
                have ih := xD_sound is (i :: acc) _ _ f2 fu' hc (by simp at hl ⊢; omega) hs
                intro hk ρ hgd hn ht
                refine wA.pure ho hd (blt_lt hlt) (gsO_S hk hg) (knk_val hk hn ht hv) hc2 ?_
                rw [renT_c]
                exact ih (hk.add fun b hb => knO_ok hk hv hb) ρ hgd hn (ht.cons (hgd.vld hvl))
              · exact stop (by simp_all) (by simp_all)
            · exact stop (by simp_all) (by simp_all)
          · exact stop (by simp_all) (by simp_all)
        · exact stop (by simp_all) (by simp_all)
      · rename_i hg
        simp only [hg] at hc hl
        split at hs
        · rename_i d hd
          simp only [hd] at hc hl
          split at hs
          · rename_i hlt
            simp only [hlt] at hc hl
            obtain ⟨xs, hx⟩ := xD_acc (P := P) (n := n) (arr := arr) (h := h) is (i :: acc) (kadd kn d none) ((d, .tup []) :: m)
            have hc2 : chkO arr (acc ++ L) i = true := by
              rw [hx] at hc
              have := chkSeq_suf hc
              simp only [chkSeq, Bool.and_eq_true] at this
              exact this.2
            obtain ⟨f2, rfl⟩ : ∃ f2, fu = f2 + 1 := ⟨fu - 1, by rw [hx] at hl; simp at hl; omega⟩
            have ih := xD_sound is (i :: acc) _ _ f2 fu' hc (by simp at hl ⊢; omega) hs
            intro hk ρ hgd hn ht
            refine wA.no ho hd (blt_lt hlt) (gsO_N hk hg) (chkO_any hc2) ?_
            have e : upd (renT ρ m) d (.tup []) = renT ρ ((d, .tup []) :: m) := by rw [renT_cons]; rfl
            rw [e]
            exact ih (hk.add fun b hb => by simp at hb) ρ hgd hn (ht.cons trivial)
          · exact stop (by simp_all) (by simp_all)
        · exact stop (by simp_all) (by simp_all)
      · exact stop (by simp_all) (by simp_all)
    · exact stop (by simp_all) (by simp_all)
def totD : XD → Option XD
  | .mk a r kn m => some (.mk a r kn m)
  | .no => none
theorem DS.go (is : List Nat) {acc rest : List Nat} {kn' : Kn} {m' : Fl} (hx : totD (xD P n arr is [] kn m h) = some (.mk acc rest kn' m')) (hfu : Nat.ble acc.length fu = true) (hc : chkSeq arr acc L = true)
    (hs : DS nb P ρr n arr (fu - acc.length) (acc ++ L) kn' m' h nx hf K) : DS nb P ρr n arr fu L kn m h nx hf K := by
  have e : xD P n arr is [] kn m h = .mk acc rest kn' m' := by
    generalize xD P n arr is [] kn m h = x at hx
    cases x with
    | mk a r k2 m2 => exact Option.some.inj hx
    | no => cases hx
  have := xD_sound (P := P) (ρr := ρr) (n := n) (nb := nb) (arr := arr) (h := h) (nx := nx) (hf := hf) (L := L) (K := K) is [] kn m fu (fu - acc.length)
  rw [e] at this
  have hle := Nat.le_of_ble_eq_true hfu
  exact this hc (by simp; omega) hs
theorem DS.gs {i : Nat} {b : Bool} (j : Nat) (ho : arr.toList[j]? = some o) (hv : gdT arr m o = some (i, .bool b)) (h1 : b = true → DS nb P ρr n arr fu L ((i, some true) :: kn) m h nx hf K) (h2 : b = false → DS nb P ρr n arr fu L ((i, some false) :: kn) m h nx hf K) : DS nb P ρr n arr fu L kn m h nx hf K := fun hk => by
  have hl := gdT_lk hv
  cases b with
  | true => exact h1 rfl (hk.know hl)
  | false => exact h2 rfl (hk.know hl)
theorem DS.fin (hr : (rdy arr L).isEmpty = true) (hfu : Nat.beq fu 0 = true) (hk : K kn m h nx hf) : DS nb P ρr n arr fu L kn m h nx hf K := by
  have e := Nat.eq_of_beq_eq_true hfu
  subst e
  exact fun hkn ρ hg hn ht => ⟨by simpa using hr, ρ, kn, m, h, nx, hf, agr.refl _ _, hg, Ent.refl _ _, hkn, hk⟩
end Go.Fw
