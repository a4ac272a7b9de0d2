/- A part of the proof: CxG -/
import Derived.Test.YtmohgegpcfkooaaGreatDoorCxF
set_option linter.all false
set_option linter.unusedSectionVars false
set_option linter.unusedVariables false
set_option linter.unusedSimpArgs false
namespace Go.Fw
variable [Gl] [Yl]
abbrev Cl := FuncId → List V → Hp → Nat → Option (V × Hp × Nat)
omit [Yl] in
def setF (d : Nat) (v : V) : Fl → Fl
  | [] => [(d, v)]
  | p :: r => match Nat.beq p.1 d with
    | true => (d, v) :: r
    | false => match Nat.blt d p.1 with
      | true => (d, v) :: p :: r
      | false => p :: setF d v r
theorem lk_setF (d : Nat) (v : V) : ∀ (m : Fl) (i : Nat), lk (setF d v m) i = lk ((d, v) :: m) i
  | [], i => rfl
  | (j, u) :: r, i => by
    simp only [setF]
    cases hj : Nat.beq j d with
    | true =>
      have := Nat.eq_of_beq_eq_true hj; subst this
      simp only [lk]
      cases Nat.beq i j <;> rfl
    | false =>
      cases hlt : Nat.blt d j with
      | true => rfl
      | false =>
        simp only [lk]
        have ih := lk_setF d v r i
        simp only [lk] at ih
        rw [ih]
        cases h1 : Nat.beq i j with
        | true =>
          have := Nat.eq_of_beq_eq_true h1; subst this
          rw [hj]; rfl
        | false => cases Nat.beq i d <;> rfl
omit [Yl] in
def puF (m : Fl) (d : Option Nat) (v : V) : Fl := match d with
  | some d => setF d v m
  | none => m
theorem lk_puF (m : Fl) (d : Option Nat) (v : V) (i : Nat) : lk (pu m d v) i = lk (puF m d v) i := by
  cases d with
  | none => rfl
  | some d => exact (lk_setF d v m i).symm
omit [Yl] in
def gC (arr : Array Oper) (m : Fl) (o : Oper) : Option Bool := match o.guard with
  | none => some true
  | some (j, want) => match (arr[j]?).bind (·.dst) with
    | some d => match lk m d with
      | some (.bool b) => match want, b with
        | true, true => some true
        | false, false => some true
        | true, false => some false
        | false, true => some false
      | some (.tup _) => some false
      | _ => none
    | none => none
theorem gC_ok {arr : Array Oper} {m : Fl} {o : Oper} {y : Bool} (h : gC arr m o = some y) : gdL arr m o y := by
  unfold gC at h
  unfold gdL
  cases ho : o.guard with
  | none => simp only [ho, Option.some.injEq] at h; exact h.symm
  | some p =>
    obtain ⟨j, want⟩ := p
    simp only [ho] at h ⊢
    cases ha : (arr[j]?).bind (·.dst) with
    | none => simp [ha] at h
    | some d =>
      simp only [ha] at h ⊢
      split at h
      · rename_i b hb
        left; rw [hb]
        cases want <;> cases b <;> simp only [Option.some.injEq] at h <;> subst h <;> rfl
      · rename_i cs hb
        simp only [Option.some.injEq] at h
        right; exact ⟨h.symm, cs, hb⟩
      · simp at h
omit [Yl] in
def dB (n : Nat) (o : Oper) : Bool := match o.dst with
  | some d => Nat.blt d n
  | none => true
theorem dB_ok {n : Nat} {o : Oper} (h : dB n o = true) : dstOk n o := by
  unfold dB at h
  unfold dstOk
  split at h
  · rename_i d hd; rw [hd]; exact blt_lt h
  · rename_i hd; rw [hd]; trivial
omit [Yl] in
def eE (P : Program) (m : Fl) (h : Hp) (nx : Nat) (o : Oper) : Option (V × Hp × Nat) := match o.op with
  | .alloc T => match tzero P T with
    | some z => match Nat.blt z.length BIG with
      | true => some (.ptr nx 0, (nx, .cells T z z.length) :: h, nx + 1)
      | false => none
    | none => none
  | .box T x => match evX m x with
    | some u => match Nat.blt (vcells u).length BIG with
      | true => some (.ptr nx 0, (nx, .cells T (vcells u) (vcells u).length) :: h, nx + 1)
      | false => none
    | none => none
  | .buildSlice T len parts => match tslice P T with
    | some e => match tsz P e with
      | some k => match tzero P e with
        | some z => match evXp m parts.toList with
          | some ps => match evFill (fun i => some (i * k, k)) (zcells z (len * k)) ps with
            | some cs => match Nat.ble (len * k) 16777216 && Nat.blt 0 z.length && Nat.blt len BIG && Nat.blt cs.length BIG with
              | true => some (.slice nx 0 len len, (nx, .cells e cs cs.length) :: h, nx + 1)
              | false => none
            | none => none
          | none => none
        | none => none
      | none => none
    | none => none
  | .store T a x => match o.dst with
    | some _ => none
    | none => match evX m a with
      | some (.ptr k off) => match evX m x with
        | some v => match hget h k with
          | some (.cells T' cs nn) => match tsz P T with
            | some sz => match Nat.beq sz (vcells v).length && Nat.ble (off + (vcells v).length) cs.length && (vcells v).all leafV with
              | true => some (.tup [], hset h k (.cells T' (stL cs off (vcells v)) nn), nx)
              | false => none
            | none => none
          | _ => none
        | none => none
      | _ => none
  | .makeMap T r => match r with
    | none => some (.map nx, (nx, .map []) :: h, nx + 1)
    | some r => match evX m r with
      | some (.int _ _) => match (tmap P T).isSome with
        | true => some (.map nx, (nx, .map []) :: h, nx + 1)
        | false => none
      | _ => none
  | .makeSlice T a b => match elemE P T with
    | some (e, k, by_, z) => match evX m a with
      | some (.int _ l) => match evX m b with
        | some (.int _ c) => match Int.decLe 0 l with
          | isTrue _ => match Int.decLe l c with
            | isTrue _ => match Nat.ble (c.toNat * by_) 281474976710656 && Nat.blt c.toNat BIG && Nat.blt (c.toNat * k) BIG with
              | true => some (.slice nx 0 l.toNat c.toNat, (nx, .cells e (zcells z (c.toNat * k)) (c.toNat * k)) :: h, nx + 1)
              | false => none
            | isFalse _ => none
          | isFalse _ => none
        | _ => none
      | _ => none
    | none => none
  | .lookup T x i ok => match tmap P T with
    | some (kT, eT) => match tzv P eT with
      | some z => match evX m x with
        | some (.map b) => match evX m i with
          | some k => match tkey P kT k with
            | true => match hget h b with
              | some (.map es) => match mix k es with
                | some r => some (lkV z ok es r, h, nx)
                | none => none
              | _ => none
            | false => none
          | none => none
        | _ => none
      | none => none
    | none => none
  | .mapUpdate T mm i x | .insert T mm i x => match o.dst with
    | some _ => none
    | none => match tmap P T with
      | some (kT, eT) => match evX m mm with
        | some (.map b) => match evX m i with
          | some k => match evX m x with
            | some v => match tkey P kT k with
              | true => match hget h b with
                | some (.map es) => match mput k v es with
                  | some es' => some (.tup [], hset h b (.map es'), nx)
                  | none => none
                | _ => none
              | false => none
            | none => none
          | none => none
        | _ => none
      | none => none
  | .convert sT dT a => match evX m a with
    | some (.str s) => match tisstr P sT with
      | true => match tslice P dT with
        | some e => match tint P e with
          | some .u8 => match Nat.beq e 5 && !Nat.beq nx BIG with
            | true => some (.slice nx 0 s.length BIG, (nx, .cells e (byteCells s) (BIG + 1)) :: h, nx + 1)
            | false => none
          | _ => none
        | none => none
      | false => none
    | some (.slice b off len _) => match tslice P sT with
      | some e => match tint P e with
        | some .u8 => match tisstr P dT with
          | true => match hget h b with
            | some (.cells _ cs _) => match Nat.ble (off + len) cs.length with
              | true => match bytesOf ((cs.drop off).take len) with
                | some s => some (.str s, h, nx)
                | none => none
              | false => none
            | _ => none
          | false => none
        | _ => none
      | none => none
    | _ => none
  | .call c => match c with
    | { callee := .builtin .append, args := ⟨[a, b]⟩, argTypes := ⟨[sT, xT]⟩ } => match elemE P sT with
      | some (e, k, by_, z) => match appT P xT with
        | true => match evX m a with
          | some va => match evX m b with
            | some x => match evSrc h k x with
              | some (us, mm) => match dfS x us && !Nat.beq nx BIG with
                | true => match va with
                  | .nilslice => match Nat.ble ((2 * mm + 192) * by_) 281474976710656 with
                    | true => match mm with
                      | 0 => some (.nilslice, h, nx)
                      | mm + 1 => some (.slice nx 0 (mm + 1) BIG, (nx, .cells e us (BIG + k)) :: h, nx + 1)
                    | false => none
                  | .slice p o' len cap => match hget h p with
                    | some (.cells T cs nn) => match Nat.ble ((2 * (len + mm) + 192) * by_) 281474976710656 with
                      | true => match Nat.beq cap len && Nat.blt len BIG with
                        | true => match Nat.blt 0 mm && Nat.ble (o' + len * k) cs.length with
                          | true => some (.slice nx 0 (len + mm) BIG, (nx, .cells e ((cs.drop o').take (len * k) ++ us) (BIG + k)) :: h, nx + 1)
                          | false => none
                        | false => match Nat.beq o' 0 && Nat.beq T e && (Nat.beq cap BIG && Nat.beq nn (BIG + k) || Nat.blt cap BIG && Nat.blt nn BIG && Nat.beq nn (cap * k)) && Nat.ble (len * k) cs.length && us.all leafV with
                          | true => some (.slice nx 0 (len + mm) BIG, (nx, .cells e (cs.take (len * k) ++ us) (BIG + k)) :: hdel h p, nx + 1)
                          | false => none
                      | false => none
                    | _ => none
                  | _ => none
                | false => none
              | none => none
            | none => none
          | none => none
        | false => none
      | none => none
    | _ => none
  | _ => none
variable {P : Program} {ρr : Option Nat} {n nb : Nat} {m : Fl} {h hf : Hp} {nx : Nat} {o : Oper} {arr : Array Oper} {K : V → Hp → Nat → Hp → Prop}
set_option maxHeartbeats 1000000 in
theorem eE_ok {v : V} {h' : Hp} {nx' : Nat} (he : eE P m h nx o = some (v, h', nx')) (hk : K v h' nx' hf) : LE nb P ρr n o m h nx hf K := by
  unfold eE at he
  split at he <;> rename_i hop
  · repeat' split at he
    all_goals first | (simp at he; done) | skip
    simp only [Option.some.injEq, Prod.mk.injEq] at he
    obtain ⟨rfl, rfl, rfl⟩ := he
    rename_i hz _ hb
    exact LE.alloc hop hz hb hk
  · repeat' split at he
    all_goals first | (simp at he; done) | skip
    simp only [Option.some.injEq, Prod.mk.injEq] at he
    obtain ⟨rfl, rfl, rfl⟩ := he
    rename_i hz _ hb
    exact LE.box hop hz hb hk
  · split at he
    · rename_i hT
      split at he
      · rename_i hs
        split at he
        · rename_i hz
          split at he
          · rename_i hp
            split at he
            · rename_i hfl
              split at he
              · rename_i hc
                simp only [Bool.and_eq_true] at hc
                simp only [Option.some.injEq, Prod.mk.injEq] at he
                obtain ⟨rfl, rfl, rfl⟩ := he
                exact LE.buildSlice hop hT hs hz hc.1.1.1 hc.1.1.2 hp hfl hc.1.2 hc.2 hk
              · simp at he
            · simp at he
          · simp at he
        · simp at he
      · simp at he
    · simp at he
  · split at he
    · simp at he
    · rename_i hd
      split at he
      · rename_i ha
        split at he
        · rename_i hx
          split at he
          · rename_i hg
            split at he
            · rename_i hsz
              split at he
              · rename_i hc
                simp only [Bool.and_eq_true] at hc
                simp only [Option.some.injEq, Prod.mk.injEq] at he
                obtain ⟨rfl, rfl, rfl⟩ := he
                exact LE.store hop ha hx hg hd (by rw [hsz, Nat.eq_of_beq_eq_true hc.1.1]) hc.1.2 hc.2 hk
              · simp at he
            · simp at he
          · simp at he
        · simp at he
      · simp at he
  · split at he
    · simp only [Option.some.injEq, Prod.mk.injEq] at he
      obtain ⟨rfl, rfl, rfl⟩ := he
      exact LE.makeMap hop hk
    · split at he
      · rename_i hr
        split at he
        · rename_i hT
          simp only [Option.some.injEq, Prod.mk.injEq] at he
          obtain ⟨rfl, rfl, rfl⟩ := he
          exact LE.makeMapR hop hT hr hk
        · simp at he
      · simp at he
  · split at he
    · rename_i hE
      split at he
      · rename_i ha
        split at he
        · rename_i hb
          split at he
          · rename_i h0 _
            split at he
            · rename_i h1 _
              split at he
              · rename_i hc
                simp only [Bool.and_eq_true] at hc
                simp only [Option.some.injEq, Prod.mk.injEq] at he
                obtain ⟨rfl, rfl, rfl⟩ := he
                exact LE.makeSlice hop hE ha hb h0 h1 hc.1.1 hc.1.2 hc.2 hk
              · simp at he
            · simp at he
          · simp at he
        · simp at he
      · simp at he
    · simp at he
  · split at he
    · rename_i hT
      split at he
      · rename_i hz
        split at he
        · rename_i hx
          split at he
          · rename_i hi
            split at he
            · rename_i hkk
              split at he
              · rename_i hg
                split at he
                · rename_i hr
                  simp only [Option.some.injEq, Prod.mk.injEq] at he
                  obtain ⟨rfl, rfl, rfl⟩ := he
                  exact LE.lookup hop hT hz hx hi hkk hg hr hk
                · simp at he
              · simp at he
            · simp at he
          · simp at he
        · simp at he
      · simp at he
    · simp at he
  · split at he
    · simp at he
    · rename_i hd
      split at he
      · rename_i hT
        split at he
        · rename_i hm
          split at he
          · rename_i hi
            split at he
            · rename_i hx
              split at he
              · rename_i hkk
                split at he
                · rename_i hg
                  split at he
                  · rename_i hr
                    simp only [Option.some.injEq, Prod.mk.injEq] at he
                    obtain ⟨rfl, rfl, rfl⟩ := he
                    exact LE.mapUpdate (.inl hop) hT hm hi hx hkk hd hg hr hk
                  · simp at he
                · simp at he
              · simp at he
            · simp at he
          · simp at he
        · simp at he
      · simp at he
  · split at he
    · simp at he
    · rename_i hd
      split at he
      · rename_i hT
        split at he
        · rename_i hm
          split at he
          · rename_i hi
            split at he
            · rename_i hx
              split at he
              · rename_i hkk
                split at he
                · rename_i hg
                  split at he
                  · rename_i hr
                    simp only [Option.some.injEq, Prod.mk.injEq] at he
                    obtain ⟨rfl, rfl, rfl⟩ := he
                    exact LE.mapUpdate (.inr hop) hT hm hi hx hkk hd hg hr hk
                  · simp at he
                · simp at he
              · simp at he
            · simp at he
          · simp at he
        · simp at he
      · simp at he
  · split at he
    · rename_i ha
      split at he
      · rename_i hs
        split at he
        · rename_i hd
          split at he
          · rename_i hu
            split at he
            · rename_i hc
              simp only [Bool.and_eq_true, Bool.not_eq_true'] at hc
              simp only [Option.some.injEq, Prod.mk.injEq] at he
              obtain ⟨rfl, rfl, rfl⟩ := he
              exact LE.toBytes hop hs hd hu ha hc.1 hc.2 hk
            · simp at he
          · simp at he
        · simp at he
      · simp at he
    · rename_i ha
      split at he
      · rename_i hd
        split at he
        · rename_i hu
          split at he
          · rename_i hs
            split at he
            · rename_i hg
              split at he
              · rename_i hl
                split at he
                · rename_i hb
                  simp only [Option.some.injEq, Prod.mk.injEq] at he
                  obtain ⟨rfl, rfl, rfl⟩ := he
                  exact LE.ofBytes hop hd hu hs ha hg hl hb hk
                · simp at he
              · simp at he
            · simp at he
          · simp at he
        · simp at he
      · simp at he
    · simp at he
  · split at he
    · split at he
      · rename_i hE
        split at he
        · rename_i hxT
          split at he
          · rename_i ha
            split at he
            · rename_i hb
              split at he
              · rename_i hs
                split at he
                · rename_i hdn
                  simp only [Bool.and_eq_true, Bool.not_eq_true'] at hdn
                  split at he
                  · split at he
                    · rename_i hbd
                      split at he
                      · simp only [Option.some.injEq, Prod.mk.injEq] at he
                        obtain ⟨rfl, rfl, rfl⟩ := he
                        exact LE.appNil0 hop hE hxT ha hb hs hdn.1 hbd hk
                      · simp only [Option.some.injEq, Prod.mk.injEq] at he
                        obtain ⟨rfl, rfl, rfl⟩ := he
                        exact LE.appNil hop hE hxT ha hb hs hdn.1 hbd (by rfl) hdn.2 hk
                    · simp at he
                  · split at he
                    · rename_i hg
                      split at he
                      · rename_i hbd
                        split at he
                        · rename_i hc
                          simp only [Bool.and_eq_true] at hc
                          split at he
                          · rename_i hc2
                            simp only [Bool.and_eq_true] at hc2
                            simp only [Option.some.injEq, Prod.mk.injEq] at he
                            obtain ⟨rfl, rfl, rfl⟩ := he
                            have := Nat.eq_of_beq_eq_true hc.1
                            subst this
                            exact LE.appFull hop hE hxT ha hc.2 hb hg hc2.2 hs hdn.1 hbd hc2.1 hdn.2 hk
                          · simp at he
                        · split at he
                          · rename_i hc
                            simp only [Bool.and_eq_true] at hc
                            simp only [Option.some.injEq, Prod.mk.injEq] at he
                            obtain ⟨rfl, rfl, rfl⟩ := he
                            have e1 := Nat.eq_of_beq_eq_true hc.1.1.1.1
                            have e2 := Nat.eq_of_beq_eq_true hc.1.1.1.2
                            subst e1 e2
                            exact LE.appLin hop hE hxT ha hc.1.1.2 hb hg hc.1.2 hs hdn.1 hc.2 hbd hdn.2 hk
                          · simp at he
                      · simp at he
                    · simp at he
                  · simp at he
                · simp at he
              · simp at he
            · simp at he
          · simp at he
        · simp at he
      · simp at he
    · simp at he
  · simp at he
end Go.Fw
