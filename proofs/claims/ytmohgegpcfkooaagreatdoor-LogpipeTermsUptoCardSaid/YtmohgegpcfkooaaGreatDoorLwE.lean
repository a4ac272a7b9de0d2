/- A part of the proof: LwE -/
import Derived.Test.YtmohgegpcfkooaaGreatDoorLwI
set_option linter.all false
set_option linter.unusedSectionVars false
set_option linter.unusedVariables false
set_option linter.unusedSimpArgs false
namespace Go.Fw
variable [Gl]
abbrev Kn := List (Nat × Option Bool)
def kl : Kn → Nat → Option Bool
  | [], _ => none
  | (j, b) :: r, i => bif Nat.beq i j then b else kl r i
def kadd (kn : Kn) (d : Nat) (kb : Option Bool) : Kn := match kb with
  | some b => (d, some b) :: kn
  | none => match kl kn d with
    | some _ => (d, none) :: kn
    | none => kn
def fK {α : Type} (kn : Kn) (k : Kn → α) : α := match kn with
  | [] => k []
  | p :: r => k (p :: r)
theorem fK_eq {α : Type} (kn : Kn) (k : Kn → α) : fK kn k = k kn := by cases kn <;> rfl
def KnOk (kn : Kn) (m : Fl) : Prop := ∀ i b, kl kn i = some b → lk m i = some (.bool b)
def knX (kn : Kn) : Operand → Option Bool
  | .tmp i => kl kn i
  | .const (.bool b) => some b
  | _ => none
def knO (kn : Kn) (o : Oper) : Option Bool := match o.op with
  | .move x => knX kn x
  | .assign x => knX kn x
  | .unOp .not _ x => match knX kn x with
    | some b => some (!b)
    | none => none
  | .pick c a b => match knX kn c with
    | some true => knX kn a
    | some false => knX kn b
    | none => none
  | _ => none
def xK (P : Program) (kn : Kn) (m : Fl) (h : Hp) (o : Oper) : Option V := match o.op with
  | .pick c a b => match knX kn c with
    | some true => evX m a
    | some false => evX m b
    | none => none
  | _ => xP P m h o
inductive Eff where
  | no
  | new (v : V) (o : AObj)
  | st (h : Hp)
def xE (P : Program) (m : Fl) (h : Hp) (nx : Nat) (o : Oper) : Eff := match o.op with
  | .alloc T => match tzero P T with
    | some z => .new (.ptr nx 0) (.cells T z z.length)
    | none => .no
  | .box T x => match evX m x with
    | some v => .new (.ptr nx 0) (.cells T (vcells v) (vcells v).length)
    | none => .no
  | .buildSlice T len parts => match tslice P T with
    | some e => match tsz P e with
      | some k => match tzero P e with
        | some z => match evXp m parts.toList with
          | some ps => match evFill (fun i => some (i * k, k)) (zcells z (len * k)) ps with
            | some cs => match Nat.ble (len * k) 16777216 && Nat.blt 0 z.length with
              | true => .new (.slice nx 0 len len) (.cells e cs cs.length)
              | false => .no
            | none => .no
          | none => .no
        | none => .no
      | none => .no
    | none => .no
  | .store T a x => match evX m a with
    | some (.ptr b off) => match evX m x with
      | some v => match hget h b with
        | some (.cells T' cs nn) => match tsz P T with
          | some k => match Nat.beq k (vcells v).length && Nat.ble (off + (vcells v).length) cs.length && (vcells v).all leafV with
            | true => .st (hset h b (.cells T' (stL cs off (vcells v)) nn))
            | false => .no
          | none => .no
        | _ => .no
      | none => .no
    | _ => .no
  | _ => .no
inductive Gs where
  | run | skip | unk
def gsO (arr : Array Oper) (kn : Kn) (m : Fl) (o : Oper) : Gs := match o.guard with
  | none => .run
  | some (j, want) => match (arr[j]?).bind (·.dst) with
    | some d => match kl kn d with
      | some b => match want, b with
        | true, true => .run
        | false, false => .run
        | true, false => .skip
        | false, true => .skip
      | none => match lk m d with
        | some (.tup _) => .skip
        | _ => .unk
    | none => .unk
def bigT (P : Program) (T : TypeId) : Bool := match tsz P T with
  | some k => Nat.blt 64 k
  | none => false
def bigO (P : Program) (o : Oper) : Bool := match o.op with
  | .load T _ => bigT P T
  | .build T _ => bigT P T
  | .alloc T => bigT P T
  | .store T _ _ => bigT P T
  | .buildSlice T _ _ => match tslice P T with
    | some e => bigT P e
    | none => false
  | _ => false
def gsB (P : Program) (arr : Array Oper) (kn : Kn) (m : Fl) (o : Oper) : Gs := match bigO P o with
  | true => match gsO arr kn m o with
    | .skip => .skip
    | _ => .unk
  | false => gsO arr kn m o
theorem gsB_run {P : Program} {arr : Array Oper} {kn : Kn} {m : Fl} {o : Oper} (h : gsB P arr kn m o = .run) : gsO arr kn m o = .run := by
  unfold gsB at h
  split at h
  · split at h <;> cases h
  · exact h
theorem gsB_skip {P : Program} {arr : Array Oper} {kn : Kn} {m : Fl} {o : Oper} (h : gsB P arr kn m o = .skip) : gsO arr kn m o = .skip := by
  unfold gsB at h
  split at h
  · split at h
    · assumption
    · cases h
  · exact h
inductive XR where
  | mk (os : List Oper) (kn : Kn) (m : Fl) (h : Hp) (nx : Nat)
  | no
def XR.ops' : XR → List Oper
  | .mk a _ _ _ _ => a
  | .no => []
def XR.kns : XR → Kn
  | .mk _ a _ _ _ => a
  | .no => []
def XR.ms : XR → Fl
  | .mk _ _ a _ _ => a
  | .no => []
def XR.hs : XR → Hp
  | .mk _ _ _ a _ => a
  | .no => []
def XR.nxs : XR → Nat
  | .mk _ _ _ _ a => a
  | .no => 0
def xOps (P : Program) (n : Nat) (arr : Array Oper) : List Oper → Kn → Fl → Hp → Nat → XR
  | [], kn, m, h, nx => .mk [] kn m h nx
  | o :: os, kn, m, h, nx => match gsB P arr kn m o with
    | .run => match xK P kn m h o with
      | some v => match o.dst with
        | some d => match Nat.blt d n with
          | true => fK (kadd kn d (knO kn o)) fun kn => xOps P n arr os kn ((d, v) :: m) h nx
          | false => .mk (o :: os) kn m h nx
        | none => .mk (o :: os) kn m h nx
      | none => match xE P m h nx o with
        | .new v ob => match o.dst with
          | some d => match Nat.blt d n with
            | true => fK (kadd kn d none) fun kn => xOps P n arr os kn ((d, v) :: m) ((nx, ob) :: h) (nx + 1)
            | false => .mk (o :: os) kn m h nx
          | none => .mk (o :: os) kn m h nx
        | .st h' => match o.dst with
          | none => xOps P n arr os kn m h' nx
          | some d => .mk (o :: os) kn m h nx
        | .no => .mk (o :: os) kn m h nx
    | .skip => match o.dst with
      | some d => match Nat.blt d n with
        | true => fK (kadd kn d none) fun kn => xOps P n arr os kn ((d, .tup []) :: m) h nx
        | false => .mk (o :: os) kn m h nx
      | none => xOps P n arr os kn m h nx
    | .unk => .mk (o :: os) kn m h nx
abbrev Ord := List Nat × List Nat
def hdO (j : Ord) : Nat := j.2.headD 0
def nxO (j : Ord) : Ord := (hdO j :: j.1, j.2.tail)
def ckE (arr : Array Oper) (j : Ord) : Bool × Bool := (chk arr j.1 (hdO j) (descs arr (hdO j)) anyO, chk arr j.1 (hdO j) (descs arr (hdO j)) calm)
def ckP (arr : Array Oper) : List Nat → List Nat → List (Bool × Bool)
  | L, [] => []
  | L, i :: is => ckE arr (L, i :: is) :: ckP arr (i :: L) is
inductive Dr where
  | no
  | at_ (j : Ord) (ck : List (Bool × Bool))
def Dr.nx : Dr → Dr
  | .no => .no
  | .at_ j (_ :: ck) => .at_ (nxO j) ck
  | .at_ j [] => .at_ (nxO j) []
def vldB (h : Hp) : V → Bool
  | .ptr b _ | .slice b _ _ _ | .map b => (hget h b).isSome
  | _ => true
def ldK (o : Oper) : Bool := match o.op with
  | .load _ _ => true
  | .call c => match c.callee with
    | .builtin _ => true
    | _ => false
  | _ => false
inductive XRD where
  | mk (os : List Oper) (ck : List (Bool × Bool)) (j : Ord) (kn : Kn) (m : Fl)
  | no
def xOpsD (P : Program) (n : Nat) (arr : Array Oper) : List Oper → List (Bool × Bool) → Ord → Kn → Fl → Hp → XRD
  | [], ck, j, kn, m, h => .mk [] ck j kn m
  | o :: os, ck, j, kn, m, h => match ck with
    | [] => .mk (o :: os) [] j kn m
    | c :: ck => match gsB P arr kn m o with
      | .run => match (match ldK o with
          | true => c.2
          | false => c.1) with
        | true => match xK P kn m h o with
          | some v => match vldB h v with
            | true => match o.dst with
              | some d => match Nat.blt d n with
                | true => fK (kadd kn d (knO kn o)) fun kn => xOpsD P n arr os ck (nxO j) kn ((d, v) :: m) h
                | false => .mk (o :: os) (c :: ck) j kn m
              | none => .mk (o :: os) (c :: ck) j kn m
            | false => .mk (o :: os) (c :: ck) j kn m
          | none => .mk (o :: os) (c :: ck) j kn m
        | false => .mk (o :: os) (c :: ck) j kn m
      | .skip => match c.1 with
        | true => match o.dst with
          | some d => match Nat.blt d n with
            | true => fK (kadd kn d none) fun kn => xOpsD P n arr os ck (nxO j) kn ((d, .tup []) :: m) h
            | false => .mk (o :: os) (c :: ck) j kn m
          | none => .mk (o :: os) (c :: ck) j kn m
        | false => .mk (o :: os) (c :: ck) j kn m
      | .unk => .mk (o :: os) (c :: ck) j kn m
inductive Kt where
  | sq (y : Code)
  | bk (id : Nat)
  | lp (L : Fl → Hp → Nat → Hp → List Nat → Prop)
inductive Cfg where
  | code (c : Code) (κ : List Kt) (kn : Kn) (m : Fl) (h : Hp) (nx : Nat) (hf : Hp) (dl : List Nat)
  | ops (arr : Array Oper) (dr : Dr) (os : List Oper) (κ : List Kt) (kn : Kn) (m : Fl) (h : Hp) (nx : Nat) (hf : Hp) (dl : List Nat)
  | fin (e : Exit) (m : Fl) (h : Hp) (nx : Nat) (hf : Hp) (dl : List Nat)
  | lp (L : Fl → Hp → Nat → Hp → List Nat → Prop) (m : Fl) (h : Hp) (nx : Nat) (hf : Hp) (dl : List Nat)
def lv (e : Exit) : List Kt → Kn → Fl → Hp → Nat → Hp → List Nat → Cfg
  | [], kn, m, h, nx, hf, dl => .fin e m h nx hf dl
  | .sq y :: κ, kn, m, h, nx, hf, dl => match e with
    | .normal => .code y κ kn m h nx hf dl
    | e => lv e κ kn m h nx hf dl
  | .lp L :: κ, kn, m, h, nx, hf, dl => match e with
    | .normal => .lp L m h nx hf dl
    | e => lv e κ kn m h nx hf dl
  | .bk id :: κ, kn, m, h, nx, hf, dl => match e with
    | .exit id' => match Nat.beq id' id with
      | true => lv .normal κ kn m h nx hf dl
      | false => lv (.exit id') κ kn m h nx hf dl
    | e => lv e κ kn m h nx hf dl
def run (P : Program) (n : Nat) : Nat → Cfg → Cfg
  | 0, c => c
  | f + 1, .code c κ kn m h nx hf dl => match c with
    | .seq x y => run P n f (.code x (.sq y :: κ) kn m h nx hf dl)
    | .block id c => run P n f (.code c (.bk id :: κ) kn m h nx hf dl)
    | .skip => run P n f (lv .normal κ kn m h nx hf dl)
    | .label _ => run P n f (lv .normal κ kn m h nx hf dl)
    | .exit id => run P n f (lv (.exit id) κ kn m h nx hf dl)
    | .ret => run P n f (lv .ret κ kn m h nx hf dl)
    | .cond cx x y => match knX kn cx with
      | some true => run P n f (.code x κ kn m h nx hf dl)
      | some false => run P n f (.code y κ kn m h nx hf dl)
      | none => .code (.cond cx x y) κ kn m h nx hf dl
    | .region id arr dr => match dr with
      | false => run P n f (.ops arr .no arr.toList κ kn m h nx hf dl)
      | true => .code (.region id arr true) κ kn m h nx hf dl
    | c => .code c κ kn m h nx hf dl
  | f + 1, .ops arr dr os κ kn m h nx hf dl => match dr with
    | .no => match xOps P n arr os kn m h nx with
      | .mk [] kn m h nx => run P n f (lv .normal κ kn m h nx hf dl)
      | .mk (o :: os) kn m h nx => .ops arr .no (o :: os) κ kn m h nx hf dl
      | .no => .ops arr .no os κ kn m h nx hf dl
    | .at_ j ck => match xOpsD P n arr os ck j kn m h with
      | .mk [] ck j kn m => run P n f (lv .normal κ kn m h nx hf dl)
      | .mk (o :: os) ck j kn m => .ops arr (.at_ j ck) (o :: os) κ kn m h nx hf dl
      | .no => .ops arr (.at_ j ck) os κ kn m h nx hf dl
  | f + 1, .fin e m h nx hf dl => .fin e m h nx hf dl
  | f + 1, .lp L m h nx hf dl => .lp L m h nx hf dl
variable {P : Program} {ρr : Option Nat} {n nb : Nat} {Q : LPo} {arr : Array Oper} {o : Oper} {os : List Oper} {κ : List Kt} {kn : Kn} {m : Fl} {h hf : Hp} {nx : Nat} {dl : List Nat} {fu : Nat} {L : List Nat} {dr : Dr}
theorem good.vld {ρ : Nat → Option Nat} (hg : good nb ρ nx h) {v : V} (hv : vldB h v = true) : vld ρ v := by
  have key : ∀ b, (hget h b).isSome = true → ∃ c, ρ b = some c := fun b hb => by
    obtain ⟨o, ho⟩ := Option.isSome_iff_exists.1 hb
    exact Option.isSome_iff_exists.1 (hg.keys _ (hget_mem ho))
  cases v <;> first | trivial | exact key _ hv
abbrev KD := Kn → Fl → Hp → Nat → Hp → Prop
def liftD (nb : Nat) (ρ : Nat → Option Nat) (K : KD) : Fr → Hp → Prop := fun t' h' => ∃ ρ' kn' m' h2 nx' hf', agr nb ρ ρ' ∧ good nb ρ' nx' h2 ∧ Ent t' h' (renT ρ' m') (renH ρ' h2 ++ hf') ∧ KnOk kn' m' ∧ K kn' m' h2 nx' hf'
def DS (nb : Nat) (P : Program) (ρr : Option Nat) (n : Nat) (arr : Array Oper) (fu : Nat) (L : List Nat) (kn : Kn) (m : Fl) (h : Hp) (nx : Nat) (hf : Hp) (K : KD) : Prop :=
  KnOk kn m → ∀ ρ, good nb ρ nx h → (renH ρ h ++ hf).ns.Nodup → vldT ρ m → wA P ρr n arr fu L (renT ρ m) (renH ρ h ++ hf) (liftD nb ρ K)
structure DOk (arr : Array Oper) (j : Ord) (ck : List (Bool × Bool)) (os : List Oper) : Prop where
  os_ : os.map some = j.2.map (arr[·]?)
  ck_ : ck = ckP arr j.1 j.2
  end_ : rdy arr (j.2.reverse ++ j.1) = []
def PK (nb : Nat) (P : Program) (ρr : Option Nat) (n : Nat) (Q : LPo) : List Kt → LPo
  | [] => Q
  | .sq y :: κ => thnL (fun m h nx hf dl => WCL nb P ρr n y m h nx hf dl (PK nb P ρr n Q κ)) (PK nb P ρr n Q κ)
  | .bk id :: κ => blkL id (PK nb P ρr n Q κ)
  | .lp L :: κ => thnL L (PK nb P ρr n Q κ)
def Safe (nb : Nat) (P : Program) (ρr : Option Nat) (n : Nat) (Q : LPo) : Cfg → Prop
  | .code c κ kn m h nx hf dl => KnOk kn m → WCL nb P ρr n c m h nx hf dl (PK nb P ρr n Q κ)
  | .ops arr .no os κ kn m h nx hf dl => KnOk kn m → LO nb P ρr n arr os m h nx hf fun m h nx hf => PK nb P ρr n Q κ .normal m h nx hf dl
  | .ops arr (.at_ j ck) os κ kn m h nx hf dl => DOk arr j ck os → DS nb P ρr n arr os.length j.1 kn m h nx hf fun kn m h nx hf => PK nb P ρr n Q κ .normal m h nx hf dl
  | .fin e m h nx hf dl => Q e m h nx hf dl
  | .lp L m h nx hf dl => L m h nx hf dl
theorem lv_sound : ∀ (κ : List Kt) (e : Exit), KnOk kn m → Safe nb P ρr n Q (lv e κ kn m h nx hf dl) → PK nb P ρr n Q κ e m h nx hf dl
  | [], e, hk, hs => hs
  | .sq y :: κ, e, hk, hs => by
    cases e with
    | normal => exact hs hk
    | _ => exact lv_sound κ _ hk hs
  | .lp L :: κ, e, hk, hs => by
    cases e with
    | normal => exact hs
    | _ => exact lv_sound κ _ hk hs
  | .bk id :: κ, e, hk, hs => by
    cases e with
    | exit id' =>
      simp only [lv] at hs
      simp only [PK, blkL]
      split at hs
      · rename_i hb; rw [if_pos (Nat.eq_of_beq_eq_true hb)]; exact lv_sound κ _ hk hs
      · rename_i hb; rw [if_neg (fun e => by rw [e, Nat.beq_refl] at hb; cases hb)]; exact lv_sound κ _ hk hs
    | _ => exact lv_sound κ _ hk hs
theorem KnOk.cons {d : Nat} {v : V} {kb : Option Bool} (hk : KnOk kn m) (hb : ∀ b, kb = some b → v = .bool b) : KnOk ((d, kb) :: kn) ((d, v) :: m) := fun i b hi => by
  simp only [kl] at hi
  simp only [lk]
  cases hbq : Nat.beq i d with
  | true => rw [hbq] at hi; simp only [cond_true] at hi ⊢; rw [hb b hi]
  | false => rw [hbq] at hi; simp only [cond_false] at hi ⊢; exact hk i b hi
theorem KnOk.add {d : Nat} {v : V} {kb : Option Bool} (hk : KnOk kn m) (hb : ∀ b, kb = some b → v = .bool b) : KnOk (kadd kn d kb) ((d, v) :: m) := by
  cases kb with
  | some b => exact hk.cons hb
  | none =>
    simp only [kadd]
    split
    · exact hk.cons hb
    · rename_i hd
      intro i b hi
      simp only [lk]
      cases hbq : Nat.beq i d with
      | true => rw [Nat.eq_of_beq_eq_true hbq, hd] at hi; cases hi
      | false => exact hk i b hi
theorem knX_ok (hk : KnOk kn m) {x : Operand} {b : Bool} (h : knX kn x = some b) : evX m x = some (.bool b) := by
  unfold knX at h
  split at h
  · exact hk _ _ h
  · simp only [Option.some.injEq] at h; subst h; rfl
  · simp at h
theorem knO_ok (hk : KnOk kn m) {v : V} {b : Bool} (hv : xK P kn m h o = some v) (hb : knO kn o = some b) : v = .bool b := by
  unfold knO at hb
  unfold xK xP at hv
  split at hb <;> rename_i hop <;> try simp only [hop] at hv
  · rw [knX_ok hk hb] at hv; exact (Option.some.inj hv).symm
  · rw [knX_ok hk hb] at hv; exact (Option.some.inj hv).symm
  · split at hb
    · rename_i b' hb'
      rw [knX_ok hk hb'] at hv
      simp only [evUn, Option.some.injEq] at hv hb
      rw [← hv, hb]
    · simp at hb
  · split at hb
    · rename_i hc; simp only [hc] at hv; rw [knX_ok hk hb] at hv; exact (Option.some.inj hv).symm
    · rename_i hc; simp only [hc] at hv; rw [knX_ok hk hb] at hv; exact (Option.some.inj hv).symm
    · simp at hb
  · simp at hb
theorem gsO_run (hk : KnOk kn m) (hg : gsO arr kn m o = .run) : gdL arr m o true := by
  unfold gsO at hg
  unfold gdL
  cases ho : o.guard with
  | none => rfl
  | some p =>
    obtain ⟨j, want⟩ := p
    simp only [ho] at hg ⊢
    cases ha : (arr[j]?).bind (·.dst) with
    | none => simp [ha] at hg
    | some d =>
      simp only [ha] at hg ⊢
      cases hd : kl kn d with
      | none => simp only [hd] at hg; split at hg <;> simp at hg
      | some b =>
        left
        rw [hk d b hd]
        simp only [hd] at hg
        cases want <;> cases b <;> simp_all
theorem gsO_skip (hk : KnOk kn m) (hg : gsO arr kn m o = .skip) : gdL arr m o false := by
  unfold gsO at hg
  unfold gdL
  cases ho : o.guard with
  | none => simp [ho] at hg
  | some p =>
    obtain ⟨j, want⟩ := p
    simp only [ho] at hg ⊢
    cases ha : (arr[j]?).bind (·.dst) with
    | none => simp [ha] at hg
    | some d =>
      simp only [ha] at hg ⊢
      cases hd : kl kn d with
      | none =>
        simp only [hd] at hg
        split at hg
        · rename_i cs hc; exact .inr ⟨by simp, cs, hc⟩
        · simp at hg
      | some b =>
        left
        rw [hk d b hd]
        simp only [hd] at hg
        cases want <;> cases b <;> simp_all
theorem blt_lt {a b : Nat} (h : Nat.blt a b = true) : a < b := Nat.le_of_ble_eq_true h
theorem LS.xK {K2 : V → Hp → Nat → Hp → Prop} {v : V} (hk : KnOk kn m) (hv : xK P kn m h o = some v) (hq : K2 v h nx hf) : LS nb P ρr n o m h nx hf K2 := by
  unfold Fw.xK at hv
  split at hv
  · rename_i c a b hop
    split at hv
    · rename_i hc
      refine LS.val (fun ρ hn ht => ?_) hq
      simp only [evP, hop, evX_ren (knX_ok hk hc), renV, if_true]
      exact evX_ren hv
    · rename_i hc
      refine LS.val (fun ρ hn ht => ?_) hq
      simp only [evP, hop, evX_ren (knX_ok hk hc), renV]
      rw [if_neg (by simp)]
      exact evX_ren hv
    · simp at hv
  · exact LS.pure hv hq
theorem LS.xE_new {K2 : V → Hp → Nat → Hp → Prop} {v : V} {ob : AObj} (he : xE P m h nx o = .new v ob) (hq : K2 v ((nx, ob) :: h) (nx + 1) hf) : LS nb P ρr n o m h nx hf K2 := by
  unfold xE at he
  split at he
  · rename_i T hop
    split at he
    · rename_i z hz
      simp only [Eff.new.injEq] at he
      obtain ⟨rfl, rfl⟩ := he
      refine LS.new (mk := fun b => .ptr b 0) (fun ρ b => by simp [renV, rex]) (fun ρ K hn ht hw => OpS.alloc hop hz ?_) hq
      intro b hb
      have := hw b hb
      rwa [renO, dryL1_ren ρ (tzero_dry hz)] at this
    · simp at he
  · rename_i T x hop
    split at he
    · rename_i u hu
      simp only [Eff.new.injEq] at he
      obtain ⟨rfl, rfl⟩ := he
      refine LS.new (mk := fun b => .ptr b 0) (fun ρ b => by simp [renV, rex]) (fun ρ K hn ht hw => OpS.box hop (evX_ren hu) ?_) hq
      intro b hb
      have := hw b hb
      rw [vcells_ren, renL_length]
      exact this
    · simp at he
  · rename_i T len parts hop
    split at he
    · rename_i e hT
      split at he
      · rename_i k hs
        split at he
        · rename_i z hz
          split at he
          · rename_i ps hps
            split at he
            · rename_i cs hcs
              split at he
              · rename_i hc
                simp only [Bool.and_eq_true, Nat.ble_eq] at hc
                have hc2 : 0 < z.length := blt_lt hc.2
                simp only [Eff.new.injEq] at he
                obtain ⟨rfl, rfl⟩ := he
                refine LS.new (mk := fun b => .slice b 0 len len) (fun ρ b => by simp [renV, rex]) (fun ρ K hn ht hw => ?_) hq
                have hcs' := evFill_ren (ρ := ρ) hcs
                have hzd : (zcells z (len * k)).all dryV1 = true := by
                  simp only [zcells, List.all_map, List.all_eq_true]
                  intro i _
                  simp only [Function.comp]
                  rw [List.getD_eq_getElem?_getD]
                  cases hg : z[i % z.length]? with
                  | none => rfl
                  | some u => exact List.all_eq_true.1 (tzero_dry hz) u (List.mem_of_getElem? hg)
                rw [dryL1_ren ρ hzd] at hcs'
                refine OpS.buildSlice hop hT hs hz hc.1 hc2 (evXp_ren hps) hcs' ?_
                intro b hb
                have := hw b hb
                rw [renL_length]
                exact this
              · simp at he
            · simp at he
          · simp at he
        · simp at he
      · simp at he
    · simp at he
  · split at he
    · split at he
      · split at he
        · split at he
          · split at he <;> simp at he
          · simp at he
        · simp at he
      · simp at he
    · simp at he
  · simp at he
theorem all_leaf_ren {ρ : Nat → Option Nat} : ∀ {l : List V}, l.all leafV = true → (renL ρ l).all leafV = true
  | [], _ => rfl
  | v :: r, h => by
    simp only [List.all_cons, Bool.and_eq_true] at h
    simp only [renL, List.all_cons, Bool.and_eq_true]
    refine ⟨?_, all_leaf_ren h.2⟩
    cases v <;> first
      | (simp_all [leafV, renV]; done)
      | (simp only [renV]; split <;> rfl)
theorem stL_ren {ρ : Nat → Option Nat} (cs vs : List V) (i : Nat) : stL (renL ρ cs) i (renL ρ vs) = renL ρ (stL cs i vs) := by
  match vs with
  | [] => simp only [renL, stL]; exact putL_ren cs [] i
  | [v] => simp only [renL, stL]; exact renL_set ρ cs i v
  | v :: u :: r => simp only [renL, stL]; exact putL_ren cs (v :: u :: r) i
theorem hset_keys {nx : Nat} {ρ : Nat → Option Nat} {b : Nat} {o : AObj} (hg : good nb ρ nx h) : good nb ρ nx (hset h b o) where
  fresh := hg.fresh
  keys := fun p hp => by
    have : p.1 ∈ (hset h b o).ns := List.mem_map.2 ⟨p, hp, rfl⟩
    rw [hset_ns] at this
    obtain ⟨q, hq, e⟩ := List.mem_map.1 this
    rw [← e]; exact hg.keys q hq
  base := hg.base
theorem LS.xE_st {K2 : V → Hp → Nat → Hp → Prop} {h' : Hp} (he : xE P m h nx o = .st h') (hd : o.dst = none) (hq : K2 (.tup []) h' nx hf) : LS nb P ρr n o m h nx hf K2 := by
  unfold xE at he
  split at he
  · split at he <;> simp at he
  · split at he <;> simp at he
  · split at he
    · split at he
      · split at he
        · split at he
          · split at he
            · split at he <;> simp at he
            · simp at he
          · simp at he
        · simp at he
      · simp at he
    · simp at he
  · rename_i T a x hop
    split at he
    · rename_i b off ha
      split at he
      · rename_i v hx
        split at he
        · rename_i T' cs nn hg
          split at he
          · rename_i k hk
            split at he
            · rename_i hc
              simp only [Bool.and_eq_true, Nat.ble_eq] at hc
              simp only [Eff.st.injEq] at he
              subst he
              refine LS.real fun ρ gd hn ht => ?_
              obtain ⟨c, hcb⟩ := evX_vld ht ha
              have hg' := hget_ren hg hn
              have ha' := evX_ren (ρ := ρ) ha
              simp only [renV, hcb] at ha'
              refine OpS.store hop ha' (evX_ren hx) ?_
              simp only [WStore]
              rw [ky_eq hcb] at hg'
              simp only [hg', renO, vcells_ren, renL_length]
              have hkl := Nat.eq_of_beq_eq_true hc.1.1
              refine ⟨by rw [hk, hkl], hc.1.2, all_leaf_ren hc.2, ρ, .tup [], _, nx, hf, agr.refl _ _, hset_keys gd, ?_, hq⟩
              have hset' := hset_ren (ρ := ρ) (hf := hf) (o' := .cells T' (stL cs off (vcells v)) nn) hg hn
              rw [ky_eq hcb] at hset'
              rw [hd, ← hset', stL_ren]
              exact Ent.refl _ _
            · simp at he
          · simp at he
        · simp at he
      · simp at he
    · simp at he
  · simp at he
theorem xOps_sound : ∀ (os : List Oper) (kn : Kn) (m : Fl) (h : Hp) (nx : Nat) {K : Fl → Hp → Nat → Hp → Prop}, KnOk kn m →
    (KnOk (xOps P n arr os kn m h nx).kns (xOps P n arr os kn m h nx).ms → LO nb P ρr n arr (xOps P n arr os kn m h nx).ops' (xOps P n arr os kn m h nx).ms (xOps P n arr os kn m h nx).hs (xOps P n arr os kn m h nx).nxs hf K) → LO nb P ρr n arr os m h nx hf K
  | [], kn, m, h, nx, K, hk, hs => hs hk
  | o :: os, kn, m, h, nx, K, hk, hs => by
    simp only [xOps, fK_eq] at hs
    split at hs
    · rename_i hg
      have hg := gsB_run hg
      split at hs
      · rename_i v hv
        split at hs
        · rename_i d hd
          split at hs
          · rename_i hn
            refine LO.run (gsO_run hk hg) (dstOk_of hd (blt_lt hn)) (LS.xK hk hv ?_)
            simp only [hd, pu]
            exact xOps_sound os _ _ _ _ (hk.add fun b hb => knO_ok hk hv hb) hs
          · exact hs hk
        · exact hs hk
      · split at hs
        · rename_i v ob he
          split at hs
          · rename_i d hd
            split at hs
            · rename_i hn
              refine LO.run (gsO_run hk hg) (dstOk_of hd (blt_lt hn)) (LS.xE_new he ?_)
              simp only [hd, pu]
              exact xOps_sound os _ _ _ _ (hk.add fun b hb => by simp at hb) hs
            · exact hs hk
          · exact hs hk
        · rename_i h' he
          split at hs
          · rename_i hd
            refine LO.run (gsO_run hk hg) (dstOk_no hd) (LS.xE_st he hd ?_)
            simp only [hd, pu]
            exact xOps_sound os _ _ _ _ hk hs
          · exact hs hk
        · exact hs hk
    · rename_i hg
      have hg := gsB_skip hg
      split at hs
      · rename_i d hd
        split at hs
        · rename_i hn
          refine LO.pass (gsO_skip hk hg) (dstOk_of hd (blt_lt hn)) ?_
          simp only [hd, pu]
          exact xOps_sound os _ _ _ _ (hk.add fun b hb => by simp at hb) hs
        · exact hs hk
      · rename_i hd
        refine LO.pass (gsO_skip hk hg) (dstOk_no hd) ?_
        simp only [hd, pu]
        exact xOps_sound os _ _ _ _ hk hs
    · exact hs hk
theorem evP_cvx {ρ : Nat → Option Nat} {sT dT : TypeId} {x : Operand} {v : V} (ht : vldT ρ m) (hop : o.op = .convert sT dT x) (hv : xP P m h o = some v) (h' : Hp) : evP P (renT ρ m) h' o = some (renV ρ v) := by
  unfold xP at hv
  simp only [hop] at hv
  split at hv
  · rename_i k z ha
    have hfl : flat v = true := by
      simp only [evConv] at hv
      split at hv
      · simp only [Option.some.injEq] at hv; subst hv; rfl
      · split at hv
        · simp only [Option.some.injEq] at hv; subst hv; rfl
        · simp at hv
      · simp at hv
    simp only [evP, hop, evX_ren ha, renV, Option.bind_some, flat_ren hfl]
    simpa only [evConv] using hv
  · rename_i l ha
    have hfl : flat v = true := by
      simp only [evConv] at hv
      split at hv
      · simp only [Option.some.injEq] at hv; subst hv; rfl
      · simp at hv
    simp only [evP, hop, evX_ren ha, renV, Option.bind_some, flat_ren hfl]
    simpa only [evConv] using hv
  · simp at hv
theorem knk_val {v : V} (hk : KnOk kn m) {ρ : Nat → Option Nat} (hn : (renH ρ h ++ hf).ns.Nodup) (ht : vldT ρ m) (hv : xK P kn m h o = some v) : evP P (renT ρ m) (renH ρ h ++ hf) o = some (renV ρ v) := by
  unfold xK at hv
  split at hv
  · rename_i c a b hop
    split at hv
    · rename_i hc
      simp only [evP, hop, evX_ren (knX_ok hk hc), renV, if_true]
      exact evX_ren hv
    · rename_i hc
      simp only [evP, hop, evX_ren (knX_ok hk hc), renV]
      rw [if_neg (by simp)]
      exact evX_ren hv
    · simp at hv
  · exact xP_ren ht hv hn
theorem xK_cv {v : V} (hc : isConv o = true) (hv : xK P kn m h o = some v) : xP P m h o = some v ∧ ∃ sT dT x, o.op = .convert sT dT x := by
  unfold isConv at hc
  split at hc
  · rename_i sT dT x hop
    unfold xK at hv
    simp only [hop] at hv
    exact ⟨hv, _, _, _, hop⟩
  · simp at hc
theorem xK_ncall {v : V} (hl : ldK o = false) (hv : xK P kn m h o = some v) : isLd o = false := by
  unfold ldK at hl
  unfold isLd
  unfold xK xP at hv
  split at hl
  · simp at hl
  · rename_i c hop
    exfalso
    simp only [hop] at hv
    split at hl
    · simp at hl
    · rename_i hb
      split at hv <;> first | (rename_i hcal; exact hb _ hcal) | (simp at hv; done)
  · rename_i h1 h2
    split
    · rename_i hop; exact absurd hop (h1 _ _)
    · rename_i hop; exact absurd hop (h2 _)
    · rfl
theorem DS.stepP {i d : Nat} {v : V} {K : KD} (ho : arr[i]? = some o) (hg : gsO arr kn m o = .run) (hc : (match ldK o with
      | true => chk arr L i (descs arr i) calm
      | false => chk arr L i (descs arr i) anyO) = true) (hv : xK P kn m h o = some v) (hvl : vldB h v = true) (hd : o.dst = some d) (hlt : d < n)
    (hs : DS nb P ρr n arr fu (i :: L) (kadd kn d (knO kn o)) ((d, v) :: m) h nx hf K) : DS nb P ρr n arr (fu + 1) L kn m h nx hf K := by
  intro hk ρ hgd hn ht
  have hgs := gdL_S (ρ := ρ) (gsO_run hk hg)
  have ht' : vldT ρ ((d, v) :: m) := fun i u hu => by
    simp only [lk] at hu
    cases hb : Nat.beq i d with
    | true => rw [hb] at hu; simp only [cond_true, Option.some.injEq] at hu; subst hu; exact hgd.vld hvl
    | false => rw [hb] at hu; exact ht i u hu
  have hw := hs (hk.add fun b hb => knO_ok hk hv hb) ρ hgd hn ht'
  rw [renT_cons] at hw
  have hv1 := knk_val hk hn ht hv
  cases hl : ldK o with
  | true =>
    rw [hl] at hc
    have hcv : isConv o = false := by
      unfold ldK at hl; unfold isConv
      split at hl <;> simp_all
    exact wA.pureS (S := fun h' => hle _ h') (Sb := calm) (fun oj t h K hsb hs hw => wStep_calm hsb hs hw) ho hd hlt hgs (fun h' hh => evP_mono hv1 hh hcv) (hle.refl _) hc hw
  | false =>
    rw [hl] at hc
    refine wA.pureS (S := fun _ => True) (Sb := anyO) (fun oj t h K _ _ hw => anyS oj t h K hw) ho hd hlt hgs (fun h' _ => ?_) trivial hc hw
    cases hcv : isConv o with
    | true =>
      obtain ⟨h1, _, _, _, hop⟩ := xK_cv hcv hv
      exact evP_cvx ht hop h1 h'
    | false => exact evP_any hv1 hcv (xK_ncall hl hv)
theorem DS.stepN {i d : Nat} {K : KD} (ho : arr[i]? = some o) (hg : gsO arr kn m o = .skip) (hc : chk arr L i (descs arr i) anyO = true) (hd : o.dst = some d) (hlt : d < n)
    (hs : DS nb P ρr n arr fu (i :: L) (kadd kn d none) ((d, .tup []) :: m) h nx hf K) : DS nb P ρr n arr (fu + 1) L kn m h nx hf K := by
  intro hk ρ hgd hn ht
  have hgs := gdL_S (ρ := ρ) (gsO_skip hk hg)
  have ht' : vldT ρ ((d, .tup []) :: m) := fun i u hu => by
    simp only [lk] at hu
    cases hb : Nat.beq i d with
    | true => rw [hb] at hu; simp only [cond_true, Option.some.injEq] at hu; subst hu; trivial
    | false => rw [hb] at hu; exact ht i u hu
  have hw := hs (hk.add fun b hb => by simp at hb) ρ hgd hn ht'
  rw [renT_cons] at hw
  exact wA.no ho hd hlt hgs hc hw
theorem DOk.tail {j : Ord} {c : Bool × Bool} {ck : List (Bool × Bool)} (hd : DOk arr j (c :: ck) (o :: os)) : arr[hdO j]? = some o ∧ c = ckE arr j ∧ DOk arr (nxO j) ck os := by
  obtain ⟨L, is⟩ := j
  obtain ⟨h1, h2, h3⟩ := hd
  cases is with
  | nil => simp at h1
  | cons i is =>
    simp only [List.map_cons, List.cons.injEq] at h1
    simp only [ckP, List.cons.injEq] at h2
    refine ⟨h1.1.symm, h2.1, h1.2, h2.2, ?_⟩
    simpa [nxO, hdO] using h3
theorem DOk.rdy {j : Ord} {ck : List (Bool × Bool)} (hd : DOk arr j ck []) : Fw.rdy arr j.1 = [] := by
  have h1 := hd.os_
  have h3 := hd.end_
  have : j.2 = [] := by simpa using h1.symm
  simpa [this] using h3
def SafeD (nb : Nat) (P : Program) (ρr : Option Nat) (n : Nat) (arr : Array Oper) (h : Hp) (nx : Nat) (hf : Hp) (K : KD) : XRD → Prop
  | .mk os ck j kn m => DOk arr j ck os → DS nb P ρr n arr os.length j.1 kn m h nx hf K
  | .no => False
theorem xOpsD_no : ∀ (os : List Oper) (ck : List (Bool × Bool)) (j : Ord) (kn : Kn) (m : Fl), xOpsD P n arr os ck j kn m h = .no → False
  | [], ck, j, kn, m, he => by simp [xOpsD] at he
  | o :: os, [], j, kn, m, he => by simp [xOpsD] at he
  | o :: os, c :: ck, j, kn, m, he => by
    simp only [xOpsD, fK_eq] at he
    repeat' split at he
    all_goals first
      | (cases he; done)
      | exact xOpsD_no os ck _ _ _ he
theorem xOpsD_sound {K : KD} : ∀ (os : List Oper) (ck : List (Bool × Bool)) (j : Ord) (kn : Kn) (m : Fl), SafeD nb P ρr n arr h nx hf K (xOpsD P n arr os ck j kn m h) → DOk arr j ck os → DS nb P ρr n arr os.length j.1 kn m h nx hf K
  | [], ck, j, kn, m, hs, hd => hs hd
  | o :: os, [], j, kn, m, hs, hd => hs hd
  | o :: os, c :: ck, j, kn, m, hs, hd => by
    have hd0 := hd
    obtain ⟨ho, hce, hdt⟩ := hd.tail
    simp only [xOpsD, fK_eq] at hs
    split at hs
    · rename_i hg
      have hg := gsB_run hg
      split at hs
      · rename_i hc
        split at hs
        · rename_i v hv
          split at hs
          · rename_i hvl
            split at hs
            · rename_i d hdst
              split at hs
              · rename_i hlt
                refine DS.stepP ho hg ?_ hv hvl hdst (blt_lt hlt) (xOpsD_sound os ck (nxO j) _ _ hs hdt)
                rw [hce] at hc
                simp only [ckE] at hc
                cases hl : ldK o <;> rw [hl] at hc <;> exact hc
              · exact hs hd0
            · exact hs hd0
          · exact hs hd0
        · exact hs hd0
      · exact hs hd0
    · rename_i hg
      have hg := gsB_skip hg
      split at hs
      · rename_i hc
        split at hs
        · rename_i d hdst
          split at hs
          · rename_i hlt
            refine DS.stepN ho hg ?_ hdst (blt_lt hlt) (xOpsD_sound os ck (nxO j) _ _ hs hdt)
            rw [hce] at hc
            exact hc
          · exact hs hd0
        · exact hs hd0
      · exact hs hd0
    · exact hs hd0
theorem DS.done {j : Ord} {ck : List (Bool × Bool)} {K : KD} (h0 : DOk arr j ck []) (hk : KnOk kn m → K kn m h nx hf) : DS nb P ρr n arr 0 j.1 kn m h nx hf K :=
  fun hkn ρ hg hn ht => ⟨h0.rdy, ρ, kn, m, h, nx, hf, agr.refl _ _, hg, Ent.refl _ _, hkn, hk hkn⟩
theorem run_sound : ∀ (f : Nat) (c : Cfg), Safe nb P ρr n Q (run P n f c) → Safe nb P ρr n Q c
  | 0, c, hs => hs
  | f + 1, .fin e m h nx hf dl, hs => hs
  | f + 1, .lp L m h nx hf dl, hs => hs
  | f + 1, .ops arr (.at_ j ck) os κ kn m h nx hf dl, hs => fun hd => by
    simp only [run] at hs
    refine xOpsD_sound os ck j kn m ?_ hd
    cases hr : xOpsD P n arr os ck j kn m h with
    | no => rw [hr] at hs; exact (xOpsD_no os ck j kn m hr).elim
    | mk os' ck' j' kn' m' =>
      rw [hr] at hs
      cases os' with
      | nil => exact fun hd' => DS.done hd' fun hk' => lv_sound κ .normal hk' (run_sound f _ hs)
      | cons o os => exact fun hd' => hs hd'
  | f + 1, .ops arr .no os κ kn m h nx hf dl, hs => fun hk => by
    simp only [run] at hs
    cases hr : xOps P n arr os kn m h nx with
    | no => rw [hr] at hs; exact hs hk
    | mk os' kn' m' h' nx' =>
      refine xOps_sound os kn m h nx hk fun hk' => ?_
      rw [hr] at hs hk' ⊢
      cases os' with
      | nil => exact LO.nil (lv_sound κ .normal hk' (run_sound f _ hs))
      | cons o os => exact hs hk'
  | f + 1, .code c κ kn m h nx hf dl, hs => fun hk => by
    cases c with
    | seq x y => exact WCL.seq (run_sound f _ hs hk)
    | block id c => exact WCL.block (run_sound f _ hs hk)
    | skip => exact WCL.skip (lv_sound κ .normal hk (run_sound f _ hs))
    | label l => exact WCL.label (lv_sound κ .normal hk (run_sound f _ hs))
    | exit id => exact WCL.exit (lv_sound κ _ hk (run_sound f _ hs))
    | ret => exact WCL.ret (lv_sound κ _ hk (run_sound f _ hs))
    | cond cx x y =>
      simp only [run] at hs
      split at hs
      · rename_i hc
        exact WCL.cond (knX_ok hk hc) (fun _ => run_sound f _ hs hk) (fun e => by simp at e)
      · rename_i hc
        exact WCL.cond (knX_ok hk hc) (fun e => by simp at e) (fun _ => run_sound f _ hs hk)
      · exact hs hk
    | region id arr dr =>
      cases dr with
      | false => exact WCL.region (run_sound f _ hs hk)
      | true => exact hs hk
    | _ => exact hs hk
def tot : Cfg → Option Cfg
  | .code c κ kn m h nx hf dl => some (.code c κ kn m h nx hf dl)
  | .ops arr dr os κ kn m h nx hf dl => some (.ops arr dr os κ kn m h nx hf dl)
  | .fin e m h nx hf dl => some (.fin e m h nx hf dl)
  | .lp L m h nx hf dl => some (.lp L m h nx hf dl)
theorem tot_eq (c : Cfg) : tot c = some c := by cases c <;> rfl
theorem os_is : ∀ {is : List Nat}, is.all (fun i => Nat.blt i arr.size) = true → (is.filterMap (arr[·]?)).map some = is.map (arr[·]?) ∧ (is.filterMap (arr[·]?)).length = is.length
  | [], _ => ⟨rfl, rfl⟩
  | i :: is, h => by
    simp only [List.all_cons, Bool.and_eq_true] at h
    have hlt := blt_lt h.1
    have : arr[i]? = some arr[i] := by simp [hlt]
    obtain ⟨h1, h2⟩ := os_is h.2
    simp only [List.filterMap_cons, this, List.map_cons, h1, List.length_cons, h2, and_self]
theorem Safe.drawP {id : Nat} (hm : P.follows .mixedOrders = true) (is : List Nat) (ck : List (Bool × Bool)) (hck : (ckP arr [] is == ck && (rdy arr is.reverse).isEmpty && Nat.beq arr.size is.length && is.all (fun i => Nat.blt i arr.size)) = true) (hs : Safe nb P ρr n Q (.ops arr (.at_ ([], is) ck) (is.filterMap (arr[·]?)) κ kn m h nx hf dl)) : Safe nb P ρr n Q (.code (.region id arr true) κ kn m h nx hf dl) := by
  simp only [Bool.and_eq_true, beq_iff_eq, List.isEmpty_iff] at hck
  obtain ⟨⟨⟨c1, c2⟩, c3⟩, c4⟩ := hck
  obtain ⟨hos, hlen⟩ := os_is c4
  intro hk ρ hg F w tm ho hfr
  refine WC.region_draw hm ?_ F w tm ho hfr
  have := hs ⟨hos, c1.symm, by simpa using c2⟩ hk ρ hg ho.nodup (vldT_of hfr)
  rw [hlen, ← Nat.eq_of_beq_eq_true c3] at this
  refine wA_mono ?_ _ _ _ _ this
  rintro t' h' ⟨ρ', kn', m', h2, nx', hf', a, g, en, hk', q⟩
  exact ⟨ρ', m', h2, nx', hf', a, g, en, q⟩
def chainG (arr : Array Oper) : List Nat → List Nat → Bool
  | L, [] => (rdy arr L).isEmpty
  | L, i :: is => (rdy arr L == [i]) && chainG arr (i :: L) is
def chainB (arr : Array Oper) (j : Ord) : Bool := late arr j.1 (hdO j) && chainG arr j.1 j.2
theorem any_of_ops {F : Fence} {P : Program} {Q : Exit → Act → World → Prop} : ∀ (is L : List Nat) (listed : Array Bool) (a : Act) (w : World), chainG arr L is = true → lst arr listed L → wpOpsIn F 0 P arr Q is a w → wpAnyIn F 0 P .any arr Q is.length listed a w
  | [], L, listed, a, w, hc, hl, hw => by
    simp only [chainG, List.isEmpty_iff] at hc
    simp only [wpAnyIn, List.length_nil]
    rw [lst_rdy hl]
    exact ⟨hc, by simpa [wpOpsIn] using hw⟩
  | i :: is, L, listed, a, w, hc, hl, hw => by
    simp only [chainG, Bool.and_eq_true, beq_iff_eq] at hc
    simp only [wpAnyIn, List.length_cons]
    rw [lst_rdy hl, hc.1]
    refine ⟨fun e => by simp at e, fun x hx => ?_⟩
    obtain rfl : x = i := by simpa using hx
    rw [wpOpsIn_cons] at hw
    have hlt : x < arr.size := rdy_lt (L := L) (by rw [hc.1]; simp)
    exact wpOpIn_mono (fun a w => any_of_ops is (x :: L) _ a w hc.2 (lst_cons hl hlt)) hw
theorem wA.tail {t : Fr} {h : Hp} {K : Fr → Hp → Prop} {j : Ord} {i : Nat} {is : List Nat} (hj : j.2 = i :: is) (hch : chainB arr j = true) (hw : RO P ρr n arr (j.2.filterMap (arr[·]?)) t h K) : wA P ρr n arr j.2.length j.1 t h K := by
  simp only [chainB, Bool.and_eq_true] at hch
  obtain ⟨L, js⟩ := j
  simp only at hj
  subst hj
  have hsa : SA P ρr n arr (i :: is).length L t h K := fun listed F w tm D Q hl ho hf hk =>
    any_of_ops (i :: is) L listed _ _ hch.2 hl (hw _ rfl F w tm D Q ho hf hk)
  have h2 := hch.2
  simp only [chainG, Bool.and_eq_true, beq_iff_eq] at h2
  exact .inl ⟨i, h2.1, hch.1, hsa⟩
theorem filterMap_os : ∀ {is : List Nat} {os : List Oper}, os.map some = is.map (arr[·]?) → is.filterMap (arr[·]?) = os
  | [], os, h => by simpa using h.symm
  | i :: is, [], h => by simp at h
  | i :: is, o :: os, h => by
    simp only [List.map_cons, List.cons.injEq] at h
    rw [List.filterMap_cons, ← h.1, filterMap_os h.2]
theorem Safe.tail {j : Ord} {ck : List (Bool × Bool)} (hch : chainB arr j = true) (hs : Safe nb P ρr n Q (.ops arr .no (o :: os) κ kn m h nx hf dl)) : Safe nb P ρr n Q (.ops arr (.at_ j ck) (o :: os) κ kn m h nx hf dl) := by
  intro hd hk ρ hg hn ht
  have h1 := hs hk ρ hg
  have hlen : (o :: os).length = j.2.length := by have := congrArg List.length hd.os_; simpa using this
  obtain ⟨i, is, hj⟩ : ∃ i is, j.2 = i :: is := by
    cases hj : j.2 with
    | nil => rw [hj] at hlen; simp at hlen
    | cons i is => exact ⟨i, is, rfl⟩
  rw [hlen]
  rw [← filterMap_os hd.os_] at h1
  refine wA_mono ?_ _ _ _ _ (wA.tail hj hch h1)
  rintro t' h' ⟨ρ', m', h2, nx', hf', a, g, en, q⟩
  exact ⟨ρ', [], m', h2, nx', hf', a, g, en, fun i b hi => by simp [kl] at hi, q⟩
theorem go (f : Nat) {c c' : Cfg} (h : tot (run P n f c) = some c') (hs : Safe nb P ρr n Q c') : Safe nb P ρr n Q c :=
  run_sound f c (by rw [tot_eq, Option.some.injEq] at h; rw [h]; exact hs)
end Go.Fw
