/- A part of the proof: LwF -/
import Derived.Test.YtmohgegpcfkooaaGreatDoorLwE
set_option linter.all false
set_option linter.unusedSectionVars false
set_option linter.unusedVariables false
set_option linter.unusedSimpArgs false
namespace Go.Fw
variable [Gl]
variable {P : Program} {ρr : Option Nat} {n nb : Nat} {Q : LPo} {arr : Array Oper} {o : Oper} {os : List Oper} {κ : List Kt} {kn : Kn} {m : Fl} {h hf : Hp} {nx : Nat} {dl : List Nat} {dr : Dr}
theorem KnOk.know (hk : KnOk kn m) {i : Nat} {b : Bool} (hv : lk m i = some (.bool b)) : KnOk ((i, some b) :: kn) m := fun j c hj => by
  simp only [kl] at hj
  cases hb : Nat.beq j i with
  | true => rw [hb] at hj; simp only [cond_true, Option.some.injEq] at hj; subst hj; rw [Nat.eq_of_beq_eq_true hb]; exact hv
  | false => rw [hb] at hj; exact hk j c hj
theorem Safe.br {i : Nat} {b : Bool} {x y : Code} (hv : lk m i = some (.bool b)) (h1 : b = true → Safe nb P ρr n Q (.code x κ ((i, some true) :: kn) m h nx hf dl)) (h2 : b = false → Safe nb P ρr n Q (.code y κ ((i, some false) :: kn) m h nx hf dl)) :
    Safe nb P ρr n Q (.code (.cond (.tmp i) x y) κ kn m h nx hf dl) := fun hk =>
  WCL.cond (b := b) hv (fun e => h1 e (by have := hk.know hv; rwa [e] at this)) (fun e => h2 e (by have := hk.know hv; rwa [e] at this))
def gdT (arr : Array Oper) (m : Fl) (o : Oper) : Option (Nat × V) := match o.guard with
  | none => none
  | some (j, _) => match (arr[j]?).bind (·.dst) with
    | some d => match lk m d with
      | some v => some (d, v)
      | none => none
    | none => none
theorem gdT_lk {i : Nat} {v : V} (hv : gdT arr m o = some (i, v)) : lk m i = some v := by
  unfold gdT at hv
  split at hv
  · simp at hv
  · split at hv
    · split at hv
      · rename_i hl; simp only [Option.some.injEq, Prod.mk.injEq] at hv; obtain ⟨rfl, rfl⟩ := hv; exact hl
      · simp at hv
    · simp at hv
theorem Safe.gs {i : Nat} {b : Bool} (hv : gdT arr m o = some (i, .bool b)) (h1 : b = true → Safe nb P ρr n Q (.ops arr dr (o :: os) κ ((i, some true) :: kn) m h nx hf dl)) (h2 : b = false → Safe nb P ρr n Q (.ops arr dr (o :: os) κ ((i, some false) :: kn) m h nx hf dl)) :
    Safe nb P ρr n Q (.ops arr dr (o :: os) κ kn m h nx hf dl) := by
  have hl := gdT_lk hv
  cases dr with
  | no =>
    intro hk
    cases b with
    | true => exact h1 rfl (hk.know hl)
    | false => exact h2 rfl (hk.know hl)
  | at_ j ck =>
    intro hd hk
    cases b with
    | true => exact h1 rfl hd (hk.know hl)
    | false => exact h2 rfl hd (hk.know hl)
def rdyO (arr : Array Oper) (kn : Kn) (m : Fl) (n : Nat) (o : Oper) : Option Nat := match gsO arr kn m o with
  | .run => match o.dst with
    | some d => match Nat.blt d n with
      | true => some d
      | false => none
    | none => none
  | _ => none
theorem rdyO_run (hk : KnOk kn m) {d : Nat} (hr : rdyO arr kn m n o = some d) : gdL arr m o true ∧ o.dst = some d ∧ d < n := by
  unfold rdyO at hr
  split at hr
  · rename_i hg
    split at hr
    · rename_i d' hd
      split at hr
      · rename_i hn
        simp only [Option.some.injEq] at hr
        subst hr
        exact ⟨gsO_run hk hg, hd, blt_lt hn⟩
      · simp at hr
    · simp at hr
  · simp at hr
theorem Safe.op {d : Nat} (hr : rdyO arr kn m n o = some d) (hs : LS nb P ρr n o m h nx hf fun v h nx hf => Safe nb P ρr n Q (.ops arr .no os κ ((d, none) :: kn) ((d, v) :: m) h nx hf dl)) : Safe nb P ρr n Q (.ops arr .no (o :: os) κ kn m h nx hf dl) := fun hk => by
  obtain ⟨hg, hd, hn⟩ := rdyO_run hk hr
  refine LO.run hg (dstOk_of hd hn) (hs.mono fun v h nx hf hq => ?_)
  rw [hd]
  exact hq (hk.cons fun b hb => by simp at hb)
def ckV (h : Hp) (o : Oper) (v : V) : Dr → Bool
  | .no => true
  | .at_ _ (c :: _) => vldB h v && !isConv o && (bif isLd o then c.2 else c.1)
  | .at_ _ [] => false
def ckA (h : Hp) (v : V) : Dr → Bool
  | .no => true
  | .at_ _ (c :: _) => vldB h v && c.1
  | .at_ _ [] => false
theorem vldT_c {ρ : Nat → Option Nat} {d : Nat} {v : V} (ht : vldT ρ m) (hv : vld ρ v) : vldT ρ ((d, v) :: m) := fun i u hu => by
  simp only [lk] at hu
  cases hb : Nat.beq i d with
  | true => rw [hb] at hu; simp only [cond_true, Option.some.injEq] at hu; subst hu; exact hv
  | false => rw [hb] at hu; exact ht i u hu
abbrev Ev (P : Program) (m : Fl) (h hf : Hp) (o : Oper) (v : V) : Prop := ∀ ρ, (renH ρ h ++ hf).ns.Nodup → vldT ρ m → evP P (renT ρ m) (renH ρ h ++ hf) o = some (renV ρ v)
theorem Safe.val {d : Nat} {v : V} (hv : Ev P m h hf o v) (hr : rdyO arr kn m n o = some d)
    (hs : Safe nb P ρr n Q (.ops arr dr.nx os κ ((d, none) :: kn) ((d, v) :: m) h nx hf dl)) (hck : ckV h o v dr = true := by rfl) : Safe nb P ρr n Q (.ops arr dr (o :: os) κ kn m h nx hf dl) := by
  cases dr with
  | no => exact Safe.op hr (LS.val hv hs)
  | at_ j ck =>
    cases ck with
    | nil => simp [ckV] at hck
    | cons c ck =>
      intro hd hk ρ hg hn ht
      obtain ⟨hgd, hdst, hlt⟩ := rdyO_run hk hr
      obtain ⟨ho, hce, hdt⟩ := hd.tail
      simp only [ckV, Bool.and_eq_true, Bool.not_eq_true'] at hck
      have hw := hs hdt (hk.cons fun b hb => by simp at hb) ρ hg hn (vldT_c ht (hg.vld hck.1.1))
      rw [renT_cons] at hw
      have hgs := gdL_S (ρ := ρ) hgd
      have hv1 := hv ρ hn ht
      rw [hce] at hck
      simp only [ckE] at hck
      cases hl : isLd o with
      | true =>
        rw [hl] at hck
        exact wA.pureS (S := fun h' => hle _ h') (Sb := calm) (fun oj t h K hsb hs hw => wStep_calm hsb hs hw) ho hdst hlt hgs (fun h' hh => evP_mono hv1 hh hck.1.2) (hle.refl _) hck.2 hw
      | false =>
        rw [hl] at hck
        exact wA.pureS (S := fun _ => True) (Sb := anyO) (fun oj t h K _ _ hw => anyS oj t h K hw) ho hdst hlt hgs (fun h' _ => evP_any hv1 hck.1.2 hl) trivial hck.2 hw
abbrev EvA (P : Program) (m : Fl) (o : Oper) (v : V) : Prop := ∀ ρ (h : Hp), vldT ρ m → evP P (renT ρ m) h o = some (renV ρ v)
theorem EvA.ev {v : V} (h1 : EvA P m o v) : Ev P m h hf o v := fun ρ _ ht => h1 ρ _ ht
theorem Safe.valA {d : Nat} {v : V} (hv : EvA P m o v) (hr : rdyO arr kn m n o = some d)
    (hs : Safe nb P ρr n Q (.ops arr dr.nx os κ ((d, none) :: kn) ((d, v) :: m) h nx hf dl)) (hck : ckA h v dr = true := by rfl) : Safe nb P ρr n Q (.ops arr dr (o :: os) κ kn m h nx hf dl) := by
  cases dr with
  | no => exact Safe.op hr (LS.val hv.ev hs)
  | at_ j ck =>
    cases ck with
    | nil => simp [ckA] at hck
    | cons c ck =>
      intro hd hk ρ hg hn ht
      obtain ⟨hgd, hdst, hlt⟩ := rdyO_run hk hr
      obtain ⟨ho, hce, hdt⟩ := hd.tail
      simp only [ckA, Bool.and_eq_true] at hck
      have hw := hs hdt (hk.cons fun b hb => by simp at hb) ρ hg hn (vldT_c ht (hg.vld hck.1))
      rw [renT_cons] at hw
      have hgs := gdL_S (ρ := ρ) hgd
      rw [hce] at hck
      exact wA.pureS (S := fun _ => True) (Sb := anyO) (fun oj t h K _ _ hw => anyS oj t h K hw) ho hdst hlt hgs (fun h' _ => hv ρ h' ht) trivial hck.2 hw
def callee? (m : Fl) (o : Oper) : Option (FuncId × List V) := match o.op with
  | .call c => match c.callee with
    | .value fo => match evX m fo with
      | some (.clo f caps) => match evXs m c.args.toList with
        | some as => some (f, as ++ caps)
        | none => none
      | _ => none
    | _ => none
  | _ => none
theorem callee?_inv {f : FuncId} {as : List V} (hc : callee? m o = some (f, as)) : ∃ c fo caps bs, o.op = .call c ∧ c.callee = .value fo ∧ evX m fo = some (.clo f caps) ∧ evXs m c.args.toList = some bs ∧ as = bs ++ caps := by
  unfold callee? at hc
  split at hc
  · rename_i c hop
    split at hc
    · rename_i fo hfo
      split at hc
      · rename_i f' caps he
        split at hc
        · rename_i bs hb
          simp only [Option.some.injEq, Prod.mk.injEq] at hc
          obtain ⟨rfl, rfl⟩ := hc
          exact ⟨c, fo, caps, bs, hop, hfo, he, hb, rfl⟩
        · simp at hc
      · simp at hc
    · simp at hc
  · simp at hc
theorem Safe.callS {d : Nat} {f : FuncId} {as : List V} (hc : callee? m o = some (f, as)) (hr : rdyO arr kn m n o = some d)
    (hs : ∀ ρ, good nb ρ nx h → (renH ρ h ++ hf).ns.Nodup → vldT ρ m → CallS P f (renL ρ as) (renH ρ h ++ hf) fun v h' => ∃ ρ' v' h2 nx' hf', agr nb ρ ρ' ∧ good nb ρ' nx' h2 ∧ Ent (updO (renT ρ m) o.dst v) h' (renT ρ' (pu m o.dst v')) (renH ρ' h2 ++ hf') ∧ Safe nb P ρr n Q (.ops arr .no os κ ((d, none) :: kn) ((d, v') :: m) h2 nx' hf' dl)) :
    Safe nb P ρr n Q (.ops arr .no (o :: os) κ kn m h nx hf dl) := by
  obtain ⟨c, fo, caps, bs, hop, hfo, he, hb, rfl⟩ := callee?_inv hc
  refine Safe.op hr (LS.real fun ρ hg hn ht => ?_)
  have h1 := evX_ren (ρ := ρ) he
  rw [renV] at h1
  have h2 := hs ρ hg hn ht
  rw [renL_append] at h2
  exact OpS.call hop hfo h1 (evXs_ren hb) h2
def ckC : Dr → Bool
  | .no => true
  | .at_ _ (c :: _) => c.1
  | .at_ _ [] => false
theorem Safe.call {d : Nat} {f : FuncId} {as : List V} {r : V} (hp : PTri P f as r) (hc : callee? m o = some (f, as)) (hr : rdyO arr kn m n o = some d) (hside : (isGo P f && as.all dry && dry r) = true)
    (hs : Safe nb P ρr n Q (.ops arr dr.nx os κ ((d, none) :: kn) ((d, r) :: m) h nx hf dl)) (hck : ckC dr = true := by rfl) : Safe nb P ρr n Q (.ops arr dr (o :: os) κ kn m h nx hf dl) := by
  simp only [Bool.and_eq_true] at hside
  cases dr with
  | no =>
    refine Safe.callS hc hr fun ρ hg hn ht => ?_
    rw [dryL_ren ρ hside.1.2]
    exact CallS.pure hside.1.1 hp ⟨ρ, r, h, nx, hf, agr.refl _ _, hg, by rw [renT_pu, dry_ren ρ hside.2]; exact Ent.refl _ _, hs⟩
  | at_ j ck =>
    cases ck with
    | nil => simp [ckC] at hck
    | cons ce ck =>
      intro hd hk ρ hg hn ht
      obtain ⟨hgd, hdst, hlt⟩ := rdyO_run hk hr
      obtain ⟨ho, hce, hdt⟩ := hd.tail
      obtain ⟨c, fo, caps, bs, hop, hfo, he, hb, rfl⟩ := callee?_inv hc
      have h1 := evX_ren (ρ := ρ) he
      rw [renV] at h1
      simp only [ckC] at hck
      rw [hce] at hck
      have hw := hs hdt (hk.cons fun b hb => by simp at hb) ρ hg hn (vldT_c ht (vld_dry hside.2))
      rw [renT_cons, dry_ren ρ hside.2] at hw
      exact wA.callP ho hdst hlt (gdL_S hgd) hop hfo h1 (evXs_ren hb) hside.1.1 (by rw [← renL_append, dryL_ren ρ hside.1.2]; exact hp) hck hw
def cat {α : Type} (enc : α → List V) (l : List α) : List V := l.flatMap enc
theorem cat_length {α : Type} {enc : α → List V} {k : Nat} (hk : ∀ x, (enc x).length = k) (l : List α) : (cat enc l).length = l.length * k := by
  induction l with
  | nil => simp [cat]
  | cons x r ih => simp only [cat, List.flatMap_cons, List.length_append, List.length_cons] at ih ⊢; rw [ih, hk, Nat.add_mul]; omega
theorem cat_cons {α : Type} (enc : α → List V) (x : α) (r : List α) : cat enc (x :: r) = enc x ++ cat enc r := by simp [cat]
theorem cat_append {α : Type} (enc : α → List V) (a b : List α) : cat enc (a ++ b) = cat enc a ++ cat enc b := by simp [cat]
theorem cat_drop {α : Type} {enc : α → List V} {k : Nat} (hk : ∀ x, (enc x).length = k) : ∀ (l : List α) (i : Nat), (cat enc l).drop (i * k) = cat enc (l.drop i)
  | [], i => by simp [cat]
  | x :: r, 0 => by simp
  | x :: r, i + 1 => by
    rw [cat_cons, List.drop_succ_cons, ← cat_drop hk r i, List.drop_append, hk]
    rw [List.drop_of_length_le (by rw [hk, Nat.add_mul]; omega), List.nil_append]
    congr 1
    rw [Nat.add_mul]; omega
theorem cat_take {α : Type} {enc : α → List V} {k : Nat} (hk : ∀ x, (enc x).length = k) : ∀ (l : List α) (i : Nat), (cat enc l).take (i * k) = cat enc (l.take i)
  | [], i => by simp [cat]
  | x :: r, 0 => by simp [cat]
  | x :: r, i + 1 => by
    rw [cat_cons, List.take_succ_cons, cat_cons, ← cat_take hk r i, List.take_append, hk]
    rw [List.take_of_length_le (by rw [hk, Nat.add_mul]; omega)]
    congr 2
    rw [Nat.add_mul]; omega
theorem cat_at {α : Type} {enc : α → List V} {k : Nat} (hk : ∀ x, (enc x).length = k) {l : List α} {i : Nat} (hi : i < l.length) : ((cat enc l).drop (i * k)).take k = enc l[i] := by
  rw [cat_drop hk, List.drop_eq_getElem_cons hi, cat_cons, List.take_append_of_le_length (by rw [hk]; omega), List.take_of_length_le (by rw [hk]; omega)]
theorem cat_get {α : Type} {enc : α → List V} {k : Nat} (hk : ∀ x, (enc x).length = k) {l : List α} {i j : Nat} (hi : i < l.length) (hj : j < k) : (cat enc l)[i * k + j]? = (enc l[i])[j]? := by
  have := cat_at hk hi
  rw [← this, List.getElem?_take_of_lt hj, List.getElem?_drop]
theorem ld_cat {α : Type} {enc : α → List V} {k : Nat} {T : TypeId} {l : List α} {i : Nat} (hk : ∀ x, (enc x).length = k) (hi : i < l.length) (ht : tagg P T = some true) (hs : tsz P T = some k) : ldAt P T (cat enc l) (i * k) = some (.agg (enc l[i])) := by
  unfold ldAt
  have hle : i * k + k ≤ (cat enc l).length := by
    rw [cat_length hk]
    have : (i + 1) * k ≤ l.length * k := Nat.mul_le_mul_right k hi
    rw [Nat.add_mul] at this; omega
  simp only [ht, hs]
  rw [if_pos hle, cat_at hk hi]
theorem ld_cat1 {α : Type} {enc : α → List V} {k : Nat} {T : TypeId} {l : List α} {i : Nat} (j : Nat) {v : V} (hk : ∀ x, (enc x).length = k) (hi : i < l.length) (hj : j < k) (ht : tagg P T = some false) (hv : (enc l[i])[j]? = some v) : ldAt P T (cat enc l) (i * k + j) = some v := by
  unfold ldAt
  simp only [ht]
  rw [cat_get hk hi hj, hv]
def slV {α : Type} (enc : α → List V) (l : List α) : V := .fslice (cat enc l) l.length
def isLoad (m : Fl) (o : Oper) : Option (TypeId × List V × Nat) := match o.op with
  | .load T a => match evX m a with
    | some (.fptr cs off) => some (T, cs, off)
    | _ => none
  | _ => none
theorem ev_ldF {T : TypeId} {cs : List V} {off : Nat} {v : V} (hv : ldAt P T cs off = some v) (hc : isLoad m o = some (T, cs, off)) (hd : dry v = true) : EvA P m o (v) := by
  intro ρ h ht
  unfold isLoad at hc
  split at hc
  · rename_i hop
    split at hc
    · rename_i ha
      simp only [Option.some.injEq, Prod.mk.injEq] at hc
      obtain ⟨rfl, rfl, rfl⟩ := hc
      rw [dry_ren ρ hd]
      simp only [evP, hop, evX_ren ha, renV, Option.bind_some, evLoad]
      exact hv
    · simp at hc
  · simp at hc
theorem Safe.ldF {d : Nat} {T : TypeId} {cs : List V} {off : Nat} {v : V} (hv : ldAt P T cs off = some v) (hc : isLoad m o = some (T, cs, off)) (hr : rdyO arr kn m n o = some d) (hd : dry v = true)
    (hs : Safe nb P ρr n Q (.ops arr dr.nx os κ ((d, none) :: kn) ((d, v) :: m) h nx hf dl)) (hck : ckA h v dr = true := by rfl) : Safe nb P ρr n Q (.ops arr dr (o :: os) κ kn m h nx hf dl) :=
  Safe.valA (ev_ldF hv hc hd) hr hs hck
def isIdxF (P : Program) (m : Fl) (o : Oper) : Option (List V × Nat × Int × Nat) := match o.op with
  | .indexAddr T x i => match evX m x with
    | some (.fslice cs len) => match evX m i with
      | some (.int _ j) => match tslice P T with
        | some e => match tsz P e with
          | some k => some (cs, len, j, k)
          | none => none
        | none => none
      | _ => none
    | _ => none
  | _ => none
theorem ev_idxF {cs : List V} {len k : Nat} {j : Int} {i : Nat} (hi : i < len) (hj : j = (i : Int)) (hc : isIdxF P m o = some (cs, len, j, k)) : EvA P m o (.fptr cs (i * k)) := by
  intro ρ h ht
  subst hj
  unfold isIdxF at hc
  split at hc
  · rename_i hop
    split at hc
    · rename_i ha
      split at hc
      · rename_i hb
        split at hc
        · rename_i hT
          split at hc
          · rename_i hk
            simp only [Option.some.injEq, Prod.mk.injEq] at hc
            obtain ⟨rfl, rfl, rfl, rfl⟩ := hc
            simp only [evP, hop, evX_ren ha, evX_ren hb, renV, evIndexAddr, hT, hk]
            rw [if_pos (by omega)]
            simp
          · simp at hc
        · simp at hc
      · simp at hc
    · simp at hc
  · simp at hc
theorem Safe.idxF {d : Nat} {cs : List V} {len k : Nat} {j : Int} {i : Nat} (hi : i < len) (hj : j = (i : Int)) (hc : isIdxF P m o = some (cs, len, j, k)) (hr : rdyO arr kn m n o = some d)
    (hs : Safe nb P ρr n Q (.ops arr dr.nx os κ ((d, none) :: kn) ((d, .fptr cs (i * k)) :: m) h nx hf dl)) (hck : ckA h (.fptr cs (i * k)) dr = true := by rfl) : Safe nb P ρr n Q (.ops arr dr (o :: os) κ kn m h nx hf dl) :=
  Safe.valA (ev_idxF hi hj hc) hr hs hck
def isIdxS (P : Program) (m : Fl) (o : Oper) : Option (List UInt8 × Int) := match o.op with
  | .index T x i => match evX m x with
    | some (.str s) => match evX m i with
      | some (.int _ j) => match tisstr P T with
        | true => some (s, j)
        | false => none
      | _ => none
    | _ => none
  | _ => none
theorem ev_idxS {s : List UInt8} {j : Int} {i : Nat} (hi : i < s.length) (hj : j = (i : Int)) (hc : isIdxS P m o = some (s, j)) : EvA P m o (.int .u8 s[i].toNat) := by
  intro ρ h ht
  subst hj
  unfold isIdxS at hc
  split at hc
  · rename_i hop
    split at hc
    · rename_i ha
      split at hc
      · rename_i hb
        split at hc
        · rename_i hT
          simp only [Option.some.injEq, Prod.mk.injEq] at hc
          obtain ⟨rfl, rfl⟩ := hc
          simp only [evP, hop, evX_ren ha, evX_ren hb, renV, evIndexV, hT]
          rw [if_pos (by simp)]
          simp [hi]
        · simp at hc
      · simp at hc
    · simp at hc
  · simp at hc
theorem Safe.idxS {d : Nat} {s : List UInt8} {j : Int} {i : Nat} (hi : i < s.length) (hj : j = (i : Int)) (hc : isIdxS P m o = some (s, j)) (hr : rdyO arr kn m n o = some d)
    (hs : Safe nb P ρr n Q (.ops arr dr.nx os κ ((d, none) :: kn) ((d, .int .u8 s[i].toNat) :: m) h nx hf dl)) (hck : ckA h (.int .u8 s[i].toNat) dr = true := by rfl) : Safe nb P ρr n Q (.ops arr dr (o :: os) κ kn m h nx hf dl) :=
  Safe.valA (ev_idxS hi hj hc) hr hs hck
theorem Safe.eqv {d : Nat} {v v' : V} (hv : v = v') (hs : Safe nb P ρr n Q (.ops arr dr os κ kn ((d, v') :: m) h nx hf dl)) : Safe nb P ρr n Q (.ops arr dr os κ kn ((d, v) :: m) h nx hf dl) := by subst hv; exact hs
end Go.Fw
