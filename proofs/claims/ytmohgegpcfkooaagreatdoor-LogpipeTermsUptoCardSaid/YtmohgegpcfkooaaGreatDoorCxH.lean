/- A part of the proof: CxH -/
import Derived.Test.YtmohgegpcfkooaaGreatDoorCxM
set_option linter.all false
set_option linter.unusedSectionVars false
set_option linter.unusedVariables false
set_option linter.unusedSimpArgs false
namespace Go.Fw
variable [Gl] [Yl]
omit [Yl] in
mutual
def lbV : V → List Nat → List Nat
  | .ptr b _, a | .slice b _ _ _, a | .map b, a => b :: a
  | .clo _ l, a | .agg l, a | .tup l, a => lbL l a
  | .iface _ v, a => lbV v a
  | _, a => a
def lbL : List V → List Nat → List Nat
  | [], a => a
  | v :: r, a => lbV v (lbL r a)
end
omit [Yl] in
def lbM : List (V × V) → List Nat → List Nat
  | [], a => a
  | e :: r, a => lbV e.1 (lbV e.2 (lbM r a))
omit [Yl] in
def lbO : AObj → List Nat → List Nat
  | .cells _ cs _, a => lbL cs a
  | .map es, a => lbM es a
  | _, a => a
omit [Yl] in
def memN : List Nat → Nat → Bool
  | [], _ => false
  | x :: r, i => match Nat.beq x i with
    | true => true
    | false => memN r i
omit [Yl] in
def reach (h : Hp) : Nat → List Nat → List Nat → List Nat
  | 0, _, seen => seen
  | _ + 1, [], seen => seen
  | f + 1, b :: todo, seen => match memN seen b with
    | true => reach h f todo seen
    | false => match hget h b with
      | some o => reach h f (lbO o todo) (b :: seen)
      | none => reach h f todo (b :: seen)
omit [Yl] in
def part (s : List Nat) : Hp → Hp × Hp
  | [] => ([], [])
  | p :: r => match part s r with
    | (a, b) => match memN s p.1 with
      | true => (p :: a, b)
      | false => (a, p :: b)
theorem part_perm (s : List Nat) : ∀ (h : Hp), ((part s h).1 ++ (part s h).2).Perm h
  | [] => List.Perm.refl _
  | p :: r => by
    have ih := part_perm s r
    simp only [part]
    cases hm : memN s p.1 with
    | true => simpa using ih
    | false => exact List.perm_middle.trans (ih.cons p)
omit [Yl] in
def split (as : List V) (h : Hp) : Hp × Hp := match lbL as [] with
  | [] => ([], h)
  | b :: r => part (reach h 100000 (b :: r) []) h
theorem split_perm (as : List V) (h : Hp) : ((split as h).1 ++ (split as h).2).Perm h := by
  unfold split
  split
  · exact List.Perm.refl _
  · exact part_perm _ _
omit [Yl] in
def keep (s : List Nat) (nx : Nat) : Hp → Hp
  | [] => []
  | p :: r => match Nat.blt p.1 nx with
    | true => p :: keep s nx r
    | false => match memN s p.1 with
      | true => p :: keep s nx r
      | false => keep s nx r
theorem keep_sub (s : List Nat) (nx : Nat) : ∀ (h : Hp), (keep s nx h).Sublist h
  | [] => List.Sublist.refl _
  | p :: r => by
    simp only [keep]
    repeat' split
    all_goals first
      | exact (keep_sub s nx r).cons_cons _
      | exact (keep_sub s nx r).cons _
omit [Yl] in
def oldL (nx : Nat) : Hp → List Nat → List Nat
  | [], a => a
  | p :: r, a => match Nat.blt p.1 nx with
    | true => p.1 :: oldL nx r a
    | false => oldL nx r a
omit [Yl] in
def gcH (r : V) (nx : Nat) (h : Hp) : Hp := match lbV r (oldL nx h []) with
  | [] => []
  | b :: l => keep (reach h 100000 (b :: l) []) nx h
theorem gcH_sub (r : V) (nx : Nat) (h : Hp) : (gcH r nx h).Sublist h := by
  unfold gcH
  split
  · exact List.nil_sublist _
  · exact keep_sub _ _ _
variable {P : Program} {ρr : Option Nat} {n nb : Nat} {m : Fl} {h hf : Hp} {nx : Nat} {dl : List Nat} {o : Oper} {os : List Oper} {arr : Array Oper}
def ClOk (P : Program) (cl : Cl) : Prop := ∀ f as h nx v h' nx', cl f as h nx = some (v, h', nx') → isGo P f = true ∧ TriE P f as h nx fun a b c => a = v ∧ b = h' ∧ c = nx'
omit [Yl] in
def eO (P : Program) (cl : Cl) (m : Fl) (h : Hp) (nx : Nat) (o : Oper) : Option (V × Hp × Nat) := match xC P m h o with
  | some v => some (v, h, nx)
  | none => match eE P m h nx o with
    | some r => some r
    | none => match o.op with
      | .call c => match c.callee with
        | .value fo => match evX m fo with
          | some (.clo f caps) => match isY caps with
            | false => match evXs m c.args.toList with
              | some bs => match split (bs ++ caps) h with
                | (h0, rest) => match cl f (bs ++ caps) h0 nx with
                  | some (v, h', nx') => some (v, h' ++ rest, nx')
                  | none => none
              | none => none
            | true => none
          | _ => none
        | _ => none
      | _ => eE2 P m h nx o
theorem eO_ok {cl : Cl} (hcl : ClOk P cl) {K : V → Hp → Nat → Hp → Prop} {v : V} {h' : Hp} {nx' : Nat} (he : eO P cl m h nx o = some (v, h', nx')) (hk : K v h' nx' hf) : LE nb P ρr n o m h nx hf K := by
  unfold eO at he
  split at he
  · rename_i hv
    simp only [Option.some.injEq, Prod.mk.injEq] at he
    obtain ⟨rfl, rfl, rfl⟩ := he
    exact LE.val (fun ρ ν hn ht => xC_rT ht hn hv) hk
  · split at he
    · rename_i hE
      simp only [Option.some.injEq] at he
      subst he
      exact eE_ok hE hk
    · split at he
      · rename_i hop
        split at he
        · rename_i hcal
          split at he
          · rename_i ff caps hfo
            split at he
            · rename_i hy
              split at he
              · rename_i bs hb
                split at he
                rename_i h0 rest hsp
                split at he
                · rename_i hc
                  simp only [Option.some.injEq, Prod.mk.injEq] at he
                  obtain ⟨rfl, rfl, rfl⟩ := he
                  obtain ⟨hgo, ht⟩ := hcl _ _ _ _ _ _ _ hc
                  have hp := split_perm (bs ++ caps) h
                  rw [hsp] at hp
                  refine LE.call hop hcal hfo hb hgo hy ht hp fun a b c ⟨e1, e2, e3⟩ => ?_
                  subst e1 e2 e3
                  exact hk
                · simp at he
              · simp at he
            · simp at he
          · simp at he
        · simp at he
      · exact eE2_ok he hk
omit [Yl] in
def eOps (P : Program) (n : Nat) (cl : Cl) (arr : Array Oper) : List Oper → Fl → Hp → Nat → Option (Fl × Hp × Nat)
  | [], m, h, nx => some (m, h, nx)
  | o :: os, m, h, nx => match dB n o with
    | true => match gC arr m o with
      | some true => match eO P cl m h nx o with
        | some (v, h', nx') => eOps P n cl arr os (puF m o.dst v) h' nx'
        | none => none
      | some false => eOps P n cl arr os (puF m o.dst (.tup [])) h nx
      | none => none
    | false => none
theorem eOps_ok {cl : Cl} (hcl : ClOk P cl) {K : PK3} : ∀ (os : List Oper) (m : Fl) (h : Hp) (nx : Nat) {m' : Fl} {h' : Hp} {nx' : Nat}, eOps P n cl arr os m h nx = some (m', h', nx') → K m' h' nx' hf → OE nb P ρr n arr os m h nx hf K
  | [], m, h, nx, m', h', nx', he, hk => by
    simp only [eOps, Option.some.injEq, Prod.mk.injEq] at he
    obtain ⟨rfl, rfl, rfl⟩ := he
    exact OE.nil hk
  | o :: os, m, h, nx, m', h', nx', he, hk => by
    simp only [eOps] at he
    split at he
    · rename_i hd
      split at he
      · rename_i hg
        split at he
        · rename_i hv
          exact OE.run (gC_ok hg) (dB_ok hd) (eO_ok hcl hv (OE.congr (lk_puF m o.dst _) (eOps_ok hcl os _ _ _ he hk)))
        · simp at he
      · rename_i hg
        exact OE.pass (gC_ok hg) (dB_ok hd) (OE.congr (lk_puF m o.dst _) (eOps_ok hcl os _ _ _ he hk))
      · simp at he
    · simp at he
omit [Yl] in
def opK (o : Oper) : Nat := match o.op with
  | .move _ | .assign _ | .pick _ _ _ | .binOp _ _ _ _ _ | .unOp _ _ _ | .fieldAddr _ _ _ | .field _ _ _ | .indexAddr _ _ _ | .index _ _ _ | .extract _ _ | .build _ _ | .nilCheck _ | .slice _ _ _ _ _ | .makeFunc _ _ _ | .convert _ _ _ => 0
  | .load _ _ => 1
  | .call c => match c.callee with
    | .builtin .len | .builtin .min | .builtin .max => 1
    | .value _ => 2
    | _ => 3
  | _ => 3
inductive Ch where
  | done
  | tail (i : Nat) (is : List Nat)
  | any (i : Nat)
  | calm (i : Nat)
  | call (i : Nat)
  | fork
omit [Yl] in
def chainOf (arr : Array Oper) : Nat → List Nat → Option (List Nat)
  | 0, _ => none
  | f + 1, L => match rdy arr L with
    | [] => some []
    | [i] => match chainOf arr f (i :: L) with
      | some is => some (i :: is)
      | none => none
    | _ => none
omit [Yl] in
def pickK (arr : Array Oper) (L : List Nat) (k : Nat) (S : Oper → Bool) : List Nat → Option Nat
  | [] => none
  | i :: r => match arr[i]? with
    | some o => match Nat.beq (opK o) k && chk arr L i (descs arr i) S with
      | true => some i
      | false => pickK arr L k S r
    | none => pickK arr L k S r
omit [Yl] in
def lkC (P : Program) (m : Fl) (h : Hp) (o : Oper) : Option V := match o.op with
  | .lookup T x i ok => match tmap P T with
    | some (kT, eT) => match tzv P eT with
      | some z => match evX m x with
        | some (.map b) => match evX m i with
          | some k => match hget h b with
            | some (.map es) => match tkey P kT k with
              | true => match mix k es with
                | some r => some (lkV z ok es r)
                | none => none
              | false => match tkeyS P kT k with
                | true => match mixS P kT k es with
                  | some r => some (lkV z ok es r)
                  | none => none
                | false => none
            | _ => none
          | none => none
        | _ => none
      | none => none
    | none => none
  | _ => none
theorem DStE.lk {fu : Nat} {L : List Nat} {i d : Nat} {v : V} {K : PK3} (hv : lkC P m h o = some v) (hg : gdL arr m o true) (hd : o.dst = some d) (hlt : d < n) (hvl : vldB h v = true)
    (hs : DE nb P ρr n arr fu (i :: L) ((d, v) :: m) h nx hf K) : DStE nb P ρr n arr fu L i o m h nx hf K := by
  intro ρ ν hgd hn ht
  refine wStep.sem (dstOk_of hd hlt) (gd_yes (i := i) (gdL_S (gdL_fix hg))) ?_
  have fin : wA P ρr n arr fu (i :: L) (updO (rT ρ ν m) o.dst (rV ρ ν v)) (rH ρ ν h ++ hf) (liftF nb ρ ν K) := by
    rw [hd]
    have e1 : updO (rT ρ ν m) (some d) (rV ρ ν v) = rT ρ ν ((d, v) :: m) := rT_pu (d := some d)
    rw [e1]
    exact hs ρ ν hgd hn (ht.pu (vldB_vld hgd hvl))
  unfold lkC at hv
  split at hv
  · rename_i T x ii ok hop
    split at hv
    · rename_i hT
      split at hv
      · rename_i hz
        split at hv
        · rename_i b hx
          split at hv
          · rename_i k0 hi
            split at hv
            · rename_i es hgt
              obtain ⟨c, hc⟩ := Option.isSome_iff_exists.1 (hgd.keys _ (hget_mem hgt))
              have h1 := hget_ren (ρ := ρ) (hf := hf) (h := fixH ν h) (k := b) (o := fixO ν b (.map es)) (by rw [hget_fix, hgt]; rfl) hn
              rw [ky_eq hc] at h1
              have hx' := evX_rT (ρ := ρ) (ν := ν) hx
              simp only [rV, fixV, renV, hc] at hx'
              have gx : evO (rs arr (rT ρ ν m) o) x = some (.map c) := by rw [evO_rs (by simp [hop, Op.operands])]; exact hx'
              have hcm : calm o = false := by unfold calm; simp [hop]
              split at hv
              · rename_i hk
                split at hv
                · rename_i r hr
                  simp only [Option.some.injEq] at hv; subst hv
                  have gi : evO (rs arr (rT ρ ν m) o) ii = some (rV ρ ν k0) := by rw [evO_rs (by simp [hop, Op.operands])]; exact evX_rT hi
                  refine OpS.lookup hop hT hz gx gi (tkey_rV hk) h1 (mix_rV hr) ⟨?_, fun e => by rw [hcm] at e; cases e⟩
                  have := lkV_rV (ρ := ρ) (ν := ν) (tzv_dry hz) (ok := ok) (es := es) (r := r)
                  simp only [rE] at this
                  rw [this]; exact fin
                · simp at hv
              · split at hv
                · rename_i hk
                  split at hv
                  · rename_i r hr
                    simp only [Option.some.injEq] at hv; subst hv
                    have hkk := tkeyS_rV (ρ := ρ) (ν := ν) hk
                    have hi' := evX_rT (ρ := ρ) (ν := ν) hi
                    have hmx := mixS_rV (ρ := ρ) (ν := ν) hr
                    rw [hkk] at hi' hmx
                    have gi : evO (rs arr (rT ρ ν m) o) ii = some k0 := by rw [evO_rs (by simp [hop, Op.operands])]; exact hi'
                    refine OpS.lookupS hop hT hz gx gi hk h1 hmx ⟨?_, fun e => by rw [hcm] at e; cases e⟩
                    have := lkV_rV (ρ := ρ) (ν := ν) (tzv_dry hz) (ok := ok) (es := es) (r := r)
                    simp only [rE] at this
                    rw [this]; exact fin
                  · simp at hv
                · simp at hv
            · simp at hv
          · simp at hv
        · simp at hv
      · simp at hv
    · simp at hv
  · simp at hv
omit [Yl] in
def effC (P : Program) (n : Nat) (arr : Array Oper) (o : Oper) (m : Fl) (h : Hp) (nx : Nat) : Option (Fl × Hp × Nat) := match eE P (rsM (o.looksAt arr) m) h nx o with
  | some (v, h2, nx2) => match dB n o && ltM nx m && ltC nx h2 && (!calm o || grows h h2) && vldB h2 v with
    | true => some (puF m o.dst v, h2, nx2)
    | false => none
  | none => match eE2 P (rsM (o.looksAt arr) m) h nx o with
    | some (v, h2, nx2) => match dB n o && ltM nx m && ltC nx h2 && (!calm o || grows h h2) && vldB h2 v with
      | true => some (puF m o.dst v, h2, nx2)
      | false => none
    | none => none
theorem effC_ok {fu : Nat} {L : List Nat} {i : Nat} {K : PK3} {m' : Fl} {h' : Hp} {nx' : Nat} (he : effC P n arr o m h nx = some (m', h', nx')) (hg : gdL arr m o true) (hs : DE nb P ρr n arr fu (i :: L) m' h' nx' hf K) : DStE nb P ρr n arr fu L i o m h nx hf K := by
  unfold effC at he
  split at he
  · rename_i hE
    split at he
    · rename_i hc
      simp only [Bool.and_eq_true] at hc
      simp only [Option.some.injEq, Prod.mk.injEq] at he
      obtain ⟨rfl, rfl, rfl⟩ := he
      exact DStE.eff (fun K hk => eE_ok hE hk) hg (dB_ok hc.1.1.1.1) hc.1.1.1.2 hc.1.1.2 hc.1.2 hc.2 (DE.congr (lk_puF m o.dst _) hs)
    · simp at he
  · split at he
    · rename_i hE
      split at he
      · rename_i hc
        simp only [Bool.and_eq_true] at hc
        simp only [Option.some.injEq, Prod.mk.injEq] at he
        obtain ⟨rfl, rfl, rfl⟩ := he
        exact DStE.eff (fun K hk => eE2_ok hE hk) hg (dB_ok hc.1.1.1.1) hc.1.1.1.2 hc.1.1.2 hc.1.2 hc.2 (DE.congr (lk_puF m o.dst _) hs)
      · simp at he
    · simp at he
omit [Yl] in
def stepC (P : Program) (n : Nat) (cl : Cl) (arr : Array Oper) (i : Nat) (m : Fl) (h : Hp) (nx : Nat) : Option (Fl × Hp × Nat) := match arr[i]? with
  | some o => match o.dst with
    | some d => match Nat.blt d n with
      | true => match gC arr m o with
        | some false => some (setF d (.tup []) m, h, nx)
        | some true => match xC P m h o with
          | some v => match vldB h v with
            | true => some (setF d v m, h, nx)
            | false => none
          | none => match lkC P m h o with
           | some v => match vldB h v with
            | true => some (setF d v m, h, nx)
            | false => none
           | none => match o.op with
            | .call c => match c.callee with
              | .value fo => match evX m fo with
                | some (.clo f caps) => match isY caps with
                  | false => match evXs m c.args.toList with
                    | some bs => match split (bs ++ caps) h with
                      | (h0, rest) => match cl f (bs ++ caps) h0 nx with
                        | some (v, h', nx') => match ltM nx m && ltH nx rest && vldB (h' ++ rest) v with
                          | true => some (setF d v m, h' ++ rest, nx')
                          | false => none
                        | none => none
                    | none => none
                  | true => none
                | _ => none
              | _ => effC P n arr o m h nx
            | _ => effC P n arr o m h nx
        | none => none
      | false => none
    | none => match gC arr m o with
      | some false => some (m, h, nx)
      | some true => effC P n arr o m h nx
      | none => none
  | none => none
omit [Yl] in
def eqS (a b : Fl × Hp × Nat) : Bool := beqM a.1 b.1 && beqH a.2.1 b.2.1 && Nat.beq a.2.2 b.2.2
theorem eqS_eq {a b : Fl × Hp × Nat} (h : eqS a b = true) : a = b := by
  obtain ⟨a1, a2, a3⟩ := a
  obtain ⟨b1, b2, b3⟩ := b
  simp only [eqS, Bool.and_eq_true] at h
  rw [beqM_eq h.1.1, beqH_eq h.1.2, nbeq h.2]
omit [Yl] in
def forkC (g : Nat → Option (Fl × Hp × Nat)) : List Nat → Option (Fl × Hp × Nat)
  | [] => none
  | [i] => g i
  | i :: j :: r => match g i with
    | some a => match forkC g (j :: r) with
      | some b => match eqS a b with
        | true => some a
        | false => none
      | none => none
    | none => none
theorem forkC_ok {g : Nat → Option (Fl × Hp × Nat)} : ∀ {l : List Nat} {a : Fl × Hp × Nat}, forkC g l = some a → l ≠ [] ∧ ∀ i ∈ l, g i = some a
  | [], a, h => by simp [forkC] at h
  | [i], a, h => ⟨by simp, fun j hj => by simp at hj; subst hj; exact h⟩
  | i :: j :: r, a, h => by
    simp only [forkC] at h
    split at h
    · rename_i b hb
      split at h
      · rename_i c hc
        split at h
        · rename_i he
          simp only [Option.some.injEq] at h
          subst h
          have e := eqS_eq he
          subst e
          obtain ⟨_, h2⟩ := forkC_ok hc
          refine ⟨by simp, fun k hk => ?_⟩
          rcases List.mem_cons.1 hk with rfl | hk
          · exact hb
          · exact h2 k hk
        · simp at h
      · simp at h
    · simp at h
omit [Yl] in
def choose0 (arr : Array Oper) (L : List Nat) : Option Nat := pickK arr L 0 anyO (rdy arr L)
omit [Yl] in
def choose1 (arr : Array Oper) (L : List Nat) : Ch := match rdy arr L with
  | [] => .done
  | r => match chainOf arr (arr.size + 1) L with
    | some (i :: is) => match chainB arr (L, i :: is) with
      | true => .tail i is
      | false => match pickK arr L 1 calm r with
        | some i => .calm i
        | none => match pickK arr L 2 anyO r with
          | some i => .call i
          | none => .fork
    | _ => match pickK arr L 1 calm r with
      | some i => .calm i
      | none => match pickK arr L 2 anyO r with
        | some i => .call i
        | none => .fork
omit [Yl] in
def simF (arr : Array Oper) : Nat → List Nat → Bool
  | 0, _ => false
  | f + 1, L => match choose0 arr L with
    | some i => simF arr f (i :: L)
    | none => match choose1 arr L with
      | .done | .tail _ _ => false
      | .calm i | .call i | .any i => simF arr f (i :: L)
      | .fork => true
omit [Yl] in
def needF (arr : Array Oper) : Bool := simF arr (arr.size + 1) []
omit [Yl] in
def baseT (m : Fl) : Operand → List Nat
  | .tmp i => match lk m i with
    | some (.ptr b _) => [b]
    | some (.slice b _ _ _) => [b]
    | _ => []
  | _ => []
omit [Yl] in
def basesL (m : Fl) : List Oper → List Nat
  | [] => []
  | o :: r => match o.op with
    | .load _ x | .fieldAddr _ x _ | .indexAddr _ x _ => baseT m x ++ basesL m r
    | _ => basesL m r
omit [Yl] in
def storesL (m : Fl) : List Oper → List Nat
  | [] => []
  | o :: r => match o.op with
    | .store _ x _ => baseT m x ++ storesL m r
    | _ => storesL m r
omit [Yl] in
def minusL (s : List Nat) : List Nat → List Nat
  | [] => []
  | b :: r => match memN s b with
    | true => minusL s r
    | false => b :: minusL s r
omit [Yl] in
def isFz (m : Fl) (o : Oper) : Bool := match o.op with
  | .load _ a => match evX m a with
    | some (.fptr _ _) => true
    | _ => false
  | _ => false
omit [Yl] in
def pickF (arr : Array Oper) (L : List Nat) (m : Fl) : List Nat → Option Nat
  | [] => none
  | i :: r => match arr[i]? with
    | some o => match isFz m o && chk arr L i (descs arr i) anyO with
      | true => some i
      | false => pickF arr L m r
    | none => pickF arr L m r
omit [Yl] in
def fzC (P : Program) (m : Fl) (h : Hp) (o : Oper) : Option V := match isFz m o with
  | true => match xC P m h o with
    | some v => match vldB h v with
      | true => some v
      | false => none
    | none => none
  | false => none
theorem fzC_any {v : V} (hv : fzC P m h o = some v) : vldB h v = true ∧ ∀ (ρ : Nat → Option Nat) (ν : Nat → Nat) (h' : Hp), vldT ρ (fixM ν m) → (rH ρ ν h ++ hf).ns.Nodup → evP P (rT ρ ν m) h' o = some (rV ρ ν v) := by
  unfold fzC at hv
  split at hv
  · rename_i hz
    split at hv
    · rename_i hx
      split at hv
      · rename_i hvl
        simp only [Option.some.injEq] at hv; subst hv
        refine ⟨hvl, fun ρ ν h' ht hn => ?_⟩
        have h1 := xC_rT ht hn hx
        unfold isFz at hz
        split at hz
        · rename_i hop
          split at hz
          · rename_i ha
            simp only [evP, hop, evX_rT ha, rV, fixV, renV, Option.bind_some, evLoad] at h1 ⊢
            exact h1
          · simp at hz
        · simp at hz
      · simp at hv
    · simp at hv
  · simp at hv
omit [Yl] in
def pureC (P : Program) (m : Fl) (h : Hp) (o : Oper) : Option V := match isLd o with
  | true => none
  | false => match xC P m h o with
    | some v => match vldB h v with
      | true => some v
      | false => none
    | none => none
omit [Yl] in
def calmC (P : Program) (m : Fl) (h : Hp) (o : Oper) : Option V := match isConv o with
  | true => none
  | false => match xC P m h o with
    | some v => match vldB h v with
      | true => some v
      | false => none
    | none => none
omit [Yl] in
def callC (P : Program) (cl : Cl) (m : Fl) (o : Oper) : Option V := match o.op with
  | .call c => match c.callee with
    | .value fo => match evX m fo with
      | some (.clo f caps) => match isY caps with
        | false => match evXs m c.args.toList with
          | some bs => match (bs ++ caps).all dry with
            | true => match cl f (bs ++ caps) [] 0 with
              | some (v, _, _) => match dry v with
                | true => some v
                | false => none
              | none => none
            | false => none
          | none => none
        | true => none
      | _ => none
    | _ => none
  | _ => none
omit [Yl] in
def mayB (arr : Array Oper) (L : List Nat) (i : Nat) (S : Oper → Bool) : Bool := chk arr L i (descs arr i) S
omit [Yl] in
def eDr (P : Program) (n : Nat) (cl : Cl) (arr : Array Oper) : Nat → List Nat → Fl → Hp → Nat → Option (Fl × Hp × Nat)
  | 0, L, m, h, nx => match rdy arr L with
    | [] => some (m, h, nx)
    | _ => none
  | f + 1, L, m, h, nx => match choose0 arr L with
    | some i => match mayB arr L i anyO with
      | true => match arr[i]? with
        | some o => match o.dst with
          | some d => match Nat.blt d n with
            | true => match gC arr m o with
              | some true => match pureC P m h o with
                | some v => eDr P n cl arr f (i :: L) (setF d v m) h nx
                | none => none
              | some false => eDr P n cl arr f (i :: L) (setF d (.tup []) m) h nx
              | none => none
            | false => none
          | none => none
        | none => none
      | false => none
    | none => match pickF arr L m (rdy arr L) with
      | some i => match mayB arr L i anyO with
        | true => match arr[i]? with
          | some o => match o.dst with
            | some d => match Nat.blt d n with
              | true => match gC arr m o with
                | some true => match fzC P m h o with
                  | some v => eDr P n cl arr f (i :: L) (setF d v m) h nx
                  | none => none
                | some false => eDr P n cl arr f (i :: L) (setF d (.tup []) m) h nx
                | none => none
              | false => none
            | none => none
          | none => none
        | false => none
      | none => match choose1 arr L with
        | .done => match rdy arr L with
          | [] => some (m, h, nx)
          | _ => none
        | .tail i is => match chainB arr (L, i :: is) && Nat.beq (f + 1) (i :: is).length with
          | true => eOps P n cl arr ((i :: is).filterMap (arr[·]?)) m h nx
          | false => none
        | .any _ => none
        | .calm i => match mayB arr L i calm && mayB arr L i anyO with
          | true => match arr[i]? with
            | some o => match o.dst with
              | some d => match Nat.blt d n with
                | true => match gC arr m o with
                  | some true => match calmC P m h o with
                    | some v => eDr P n cl arr f (i :: L) (setF d v m) h nx
                    | none => none
                  | some false => eDr P n cl arr f (i :: L) (setF d (.tup []) m) h nx
                  | none => none
                | false => none
              | none => none
            | none => none
          | false => none
        | .call i => match mayB arr L i anyO with
          | true => match arr[i]? with
            | some o => match o.dst with
              | some d => match Nat.blt d n with
                | true => match gC arr m o with
                  | some true => match callC P cl m o with
                    | some v => eDr P n cl arr f (i :: L) (setF d v m) h nx
                    | none => forkC (fun i => match stepC P n cl arr i m h nx with
                      | some (m', h', nx') => eDr P n cl arr f (i :: L) m' h' nx'
                      | none => none) (rdy arr L)
                  | some false => eDr P n cl arr f (i :: L) (setF d (.tup []) m) h nx
                  | none => none
                | false => none
              | none => none
            | none => none
          | false => none
        | .fork => forkC (fun i => match stepC P n cl arr i m h nx with
          | some (m', h', nx') => eDr P n cl arr f (i :: L) m' h' nx'
          | none => none) (rdy arr L)
theorem PTri.of_E {f : FuncId} {as : List V} {v : V} {h' : Hp} {nx' : Nat} (ht : TriE P f as [] 0 fun a b c => a = v ∧ b = h' ∧ c = nx') (hd : as.all dry = true) (hv : dry v = true) : PTri P f as v := by
  refine PTri.any ?_
  have := ht (fun _ => none) (fun _ => 0) ⟨fun _ _ => rfl, fun p hp => by simp at hp, Nat.le_refl _⟩
  rw [dryL_fix _ hd, dryL_ren _ hd] at this
  refine Tri.mono this ?_
  rintro u hh ⟨ρ', ν', v0, h0, nx0, _, _, _, rfl, rfl, rfl, rfl, rfl⟩
  rw [rV, dry_fix _ hv, dry_ren _ hv]
theorem stepC_ok {cl : Cl} (hcl : ClOk P cl) {K : PK3} {fu : Nat} {L : List Nat} {i : Nat} {m' : Fl} {h' : Hp} {nx' : Nat} (he : stepC P n cl arr i m h nx = some (m', h', nx')) (ho : arr[i]? = some o) (hs : DE nb P ρr n arr fu (i :: L) m' h' nx' hf K) : DStE nb P ρr n arr fu L i o m h nx hf K := by
  unfold stepC at he
  rw [ho] at he
  simp only at he
  split at he
  · rename_i d hd
    split at he
    · rename_i hlt
      split at he
      · rename_i hg
        simp only [Option.some.injEq, Prod.mk.injEq] at he
        obtain ⟨rfl, rfl, rfl⟩ := he
        exact DStE.skip (gC_ok hg) hd (blt_lt hlt) (DE.congr (fun i => (lk_setF d _ m i).symm) hs)
      · rename_i hg
        split at he
        · rename_i hx
          split at he
          · rename_i hvl
            simp only [Option.some.injEq, Prod.mk.injEq] at he
            obtain ⟨rfl, rfl, rfl⟩ := he
            exact DStE.val hx (gC_ok hg) hd (blt_lt hlt) hvl (DE.congr (fun i => (lk_setF d _ m i).symm) hs)
          · simp at he
        · split at he
          · rename_i hlk
            split at he
            · rename_i hvl
              simp only [Option.some.injEq, Prod.mk.injEq] at he
              obtain ⟨rfl, rfl, rfl⟩ := he
              exact DStE.lk hlk (gC_ok hg) hd (blt_lt hlt) hvl (DE.congr (fun i => (lk_setF d _ m i).symm) hs)
            · simp at he
          split at he
          · rename_i hop
            split at he
            · rename_i hcal
              split at he
              · rename_i ff caps hfo
                split at he
                · rename_i hy
                  split at he
                  · rename_i bs hb
                    obtain ⟨h0, rest, hsp⟩ : ∃ h0 rest, split (bs ++ caps) h = (h0, rest) := ⟨_, _, rfl⟩
                    rw [hsp] at he
                    simp only at he
                    split at he
                    · rename_i hc
                      split at he
                      · rename_i hk
                        simp only [Bool.and_eq_true] at hk
                        simp only [Option.some.injEq, Prod.mk.injEq] at he
                        obtain ⟨rfl, rfl, rfl⟩ := he
                        obtain ⟨hgo, ht⟩ := hcl _ _ _ _ _ _ _ hc
                        have hp := split_perm (bs ++ caps) h
                        rw [hsp] at hp
                        exact DStE.call hop hcal hfo hb hgo hy ht hp (gC_ok hg) hd (blt_lt hlt) hk.1.1 hk.1.2 hk.2 (DE.congr (fun i => (lk_setF d _ m i).symm) hs)
                      · simp at he
                    · simp at he
                  · simp at he
                · simp at he
              · simp at he
            · rename_i hg2 _ _ _ _ _; exact effC_ok he (gC_ok hg) hs
          · exact effC_ok he (gC_ok hg) hs
      · simp at he
    · simp at he
  · rename_i hd
    split at he
    · rename_i hg
      simp only [Option.some.injEq, Prod.mk.injEq] at he
      obtain ⟨rfl, rfl, rfl⟩ := he
      exact DStE.skipN (gC_ok hg) hd hs
    · rename_i hg
      exact effC_ok he (gC_ok hg) hs
    · simp at he
theorem eDr_ok {cl : Cl} (hcl : ClOk P cl) {K : PK3} : ∀ (f : Nat) (L : List Nat) (m : Fl) (h : Hp) (nx : Nat) {m' : Fl} {h' : Hp} {nx' : Nat}, eDr P n cl arr f L m h nx = some (m', h', nx') → K m' h' nx' hf → DE nb P ρr n arr f L m h nx hf K
  | 0, L, m, h, nx, m', h', nx', he, hk => by
    simp only [eDr] at he
    split at he
    · rename_i hr
      simp only [Option.some.injEq, Prod.mk.injEq] at he
      obtain ⟨rfl, rfl, rfl⟩ := he
      exact DE.done hr hk
    · simp at he
  | f + 1, L, m, h, nx, m', h', nx', he, hk => by
    have fk : ∀ {a : Fl × Hp × Nat}, a = (m', h', nx') → (forkC (fun i => match stepC P n cl arr i m h nx with
          | some (m', h', nx') => eDr P n cl arr f (i :: L) m' h' nx'
          | none => none) (rdy arr L)) = some a → DE nb P ρr n arr (f + 1) L m h nx hf K := fun {a} ea he => by
      subst ea
      obtain ⟨hne, hall⟩ := forkC_ok he
      refine DE.all hne fun i hi o ho => ?_
      have h1 := hall i hi
      split at h1
      · rename_i hst
        exact stepC_ok hcl hst ho (eDr_ok hcl f _ _ _ _ h1 hk)
      · simp at h1
    simp only [eDr] at he
    split at he
    · split at he
      · rename_i hc
        split at he
        · rename_i o ho
          split at he
          · rename_i d hd
            split at he
            · rename_i hlt
              split at he
              · rename_i hg
                split at he
                · rename_i v hv
                  unfold pureC at hv
                  split at hv
                  · simp at hv
                  · rename_i hl
                    split at hv
                    · rename_i hx
                      split at hv
                      · rename_i hvl
                        simp only [Option.some.injEq] at hv; subst hv
                        exact DE.any ho (gC_ok hg) hc (fun ρ ν h' ht hn => xC_any ht hn hx hl h') hvl hd (blt_lt hlt) (DE.congr (fun i => (lk_setF d _ m i).symm) (eDr_ok hcl f _ _ _ _ he hk))
                      · simp at hv
                    · simp at hv
                · simp at he
              · rename_i hg
                exact DE.skip ho (gC_ok hg) hc hd (blt_lt hlt) (DE.congr (fun i => (lk_setF d _ m i).symm) (eDr_ok hcl f _ _ _ _ he hk))
              · simp at he
            · simp at he
          · simp at he
        · simp at he
      · simp at he
    · split at he
      · split at he
        · rename_i hc
          split at he
          · rename_i o ho
            split at he
            · rename_i d hd
              split at he
              · rename_i hlt
                split at he
                · rename_i hg
                  split at he
                  · rename_i v hv
                    have hz := fzC_any (hf := hf) hv
                    exact DE.any ho (gC_ok hg) hc (fun ρ ν h' ht hn => hz.2 ρ ν h' ht hn) hz.1 hd (blt_lt hlt) (DE.congr (fun i => (lk_setF d _ m i).symm) (eDr_ok hcl f _ _ _ _ he hk))
                  · simp at he
                · rename_i hg
                  exact DE.skip ho (gC_ok hg) hc hd (blt_lt hlt) (DE.congr (fun i => (lk_setF d _ m i).symm) (eDr_ok hcl f _ _ _ _ he hk))
                · simp at he
              · simp at he
            · simp at he
          · simp at he
        · simp at he
      · split at he
        · split at he
          · rename_i hr
            simp only [Option.some.injEq, Prod.mk.injEq] at he
            obtain ⟨rfl, rfl, rfl⟩ := he
            exact DE.done hr hk
          · simp at he
        · rename_i i is _
          split at he
          · rename_i hc
            simp only [Bool.and_eq_true] at hc
            rw [Nat.eq_of_beq_eq_true hc.2]
            exact DE.tail (j := (L, i :: is)) rfl hc.1 (eOps_ok hcl _ _ _ _ he hk)
          · simp at he
        · simp at he
        · split at he
          · rename_i hc
            simp only [Bool.and_eq_true] at hc
            split at he
            · rename_i o ho
              split at he
              · rename_i d hd
                split at he
                · rename_i hlt
                  split at he
                  · rename_i hg
                    split at he
                    · rename_i v hv
                      unfold calmC at hv
                      split at hv
                      · simp at hv
                      · rename_i hl
                        split at hv
                        · rename_i hx
                          split at hv
                          · rename_i hvl
                            simp only [Option.some.injEq] at hv; subst hv
                            exact DE.calm ho (gC_ok hg) hc.1 (fun ρ ν ht hn => xC_rT ht hn hx) hl hvl hd (blt_lt hlt) (DE.congr (fun i => (lk_setF d _ m i).symm) (eDr_ok hcl f _ _ _ _ he hk))
                          · simp at hv
                        · simp at hv
                    · simp at he
                  · rename_i hg
                    exact DE.skip ho (gC_ok hg) hc.2 hd (blt_lt hlt) (DE.congr (fun i => (lk_setF d _ m i).symm) (eDr_ok hcl f _ _ _ _ he hk))
                  · simp at he
                · simp at he
              · simp at he
            · simp at he
          · simp at he
        · split at he
          · rename_i hc
            split at he
            · rename_i o ho
              split at he
              · rename_i d hd
                split at he
                · rename_i hlt
                  split at he
                  · rename_i hg
                    split at he
                    · rename_i v hv
                      unfold callC at hv
                      split at hv
                      · rename_i hop
                        split at hv
                        · rename_i hcal
                          split at hv
                          · rename_i hfo
                            split at hv
                            · rename_i hy
                              split at hv
                              · rename_i hb
                                split at hv
                                · rename_i hdr
                                  split at hv
                                  · rename_i hr
                                    split at hv
                                    · rename_i hdv
                                      simp only [Option.some.injEq] at hv; subst hv
                                      obtain ⟨hgo, ht⟩ := hcl _ _ _ _ _ _ _ hr
                                      exact DE.callP ho (gC_ok hg) hc hop hcal hfo hb hgo hy hdr (PTri.of_E ht hdr hdv) hdv hd (blt_lt hlt) (DE.congr (fun i => (lk_setF d _ m i).symm) (eDr_ok hcl f _ _ _ _ he hk))
                                    · simp at hv
                                  · simp at hv
                                · simp at hv
                              · simp at hv
                            · simp at hv
                          · simp at hv
                        · simp at hv
                      · simp at hv
                    · exact fk rfl he
                  · rename_i hg
                    exact DE.skip ho (gC_ok hg) hc hd (blt_lt hlt) (DE.congr (fun i => (lk_setF d _ m i).symm) (eDr_ok hcl f _ _ _ _ he hk))
                  · simp at he
                · simp at he
              · simp at he
            · simp at he
          · simp at he
        · exact fk rfl he
end Go.Fw
