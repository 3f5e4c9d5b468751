/- The abstract machine run with what comes behind: a second reading of its code, for proofs with open arguments. -/
import Derived.Test.YtbhmnhgljlmafaaGreatMf
set_option linter.all false

namespace Am
open Go
noncomputable section

def pvK (o : Option AVal) (k : AVal → CallRes) : CallRes := match o with
  | some v => k v
  | none => .stuck
def alK (r : Option (AObj × (Nat → AVal))) (H : AHeap) (k : AVal → AHeap → CallRes) : CallRes := match r with
  | some (o, mk) => k (mk H.next) (H.new o)
  | none => .stuck
def outK (o : AOut) (kp k : AVal → AHeap → CallRes) : CallRes := match o with
  | .val v H => k v H
  | .pan v H => kp v H
  | _ => .stuck
def outD (o : AOut) (k kp : AVal → AHeap → CallRes) (kd : ADef → CallRes) : CallRes := match o with
  | .val v H => k v H
  | .pan v H => kp v H
  | .dfr d => kd d
  | .stuck => .stuck
/-- layers that say nothing: what stands behind more of them, the kernel opens first -/
def lay1 (a : CallRes) : CallRes := a
def lay2 (a : CallRes) : CallRes := lay1 a
def lay3 (a : CallRes) : CallRes := lay2 a
def lay4 (a : CallRes) : CallRes := lay3 a
def lay5 (a : CallRes) : CallRes := lay4 a
def lay6 (a : CallRes) : CallRes := lay5 a
def lay7 (a : CallRes) : CallRes := lay6 a
def lay8 (a : CallRes) : CallRes := lay7 a
def lay9 (a : CallRes) : CallRes := lay8 a
def condK (c : AVal) (a b : CallRes) : CallRes := lay9 (match c with
  | .bool true => a
  | .bool false => b
  | _ => .stuck)
def undK (c : AVal) (a : CallRes) : CallRes := lay9 (match c with
  | .tuple [] => a
  | _ => .stuck)
def chkK (b : Bool) (a : CallRes) : CallRes := bif b then a else .stuck

/-- which pieces of a body may defer -/
inductive Flg where
  | no | yes
  | seq (a b : Flg)
def Flg.fst : Flg → Flg | .seq a _ => a | f => f
def Flg.snd : Flg → Flg | .seq _ b => b | f => f
def Flg.on : Flg → Bool | .yes => true | _ => false

abbrev KN := Tmps → List ADef → AHeap → CallRes
abbrev KP := AVal → Tmps → List ADef → AHeap → CallRes

def memP (p : Path) : List Path → Bool
  | [] => false
  | q :: qs => q.beq p || memP p qs

/-- by a guard: `run` or not -/
def guardK (U : List Path) (g : Option (Path × Bool)) (T : Tmps) (run skip : Tmps → CallRes) : CallRes := match g with
  | none => run T
  | some (p, want) => bif memP p U then undK (getT T p) (skip T)
      else condK (getT T p) (bif want then run (setT T p (.bool true)) else skip (setT T p (.bool true)))
        (bif want then skip (setT T p (.bool false)) else run (setT T p (.bool false)))

def undU (d : Option Path) (U : List Path) : List Path := match d with
  | some d => d :: U
  | none => U

def opsK (W0 : BaseF) (callf : CallF) (fl : Bool) (kP : KP) (kN : KN) (l : List AInst) : List Path → Tmps → List ADef → AHeap → CallRes :=
  List.rec (motive := fun _ => List Path → Tmps → List ADef → AHeap → CallRes) (fun _ T D H => kN T D H)
    (fun i _ ih U T D H => guardK U i.guard T
      (fun T => match i.run with
        | .pure f => pvK (f T) fun v => ih U (putT T i.dst v) D H
        | .alloc f => alK (f T) H fun v H => ih U (putT T i.dst v) D H
        | .read f => pvK (f W0 T H) fun v => ih U (putT T i.dst v) D H
        | .chain f => bif fl then outD (f W0 callf T H) (fun v H => ih U (putT T i.dst v) D H) (fun v H => kP v T D H) (fun d => ih U (putT T i.dst .undef) (d :: D) H)
            else outK (f W0 callf T H) (fun v H => kP v T D H) (fun v H => ih U (putT T i.dst v) D H)
        | .recover => .stuck)
      (fun T => ih (undU i.dst U) (putT T i.dst .undef) D H)) l

def drwK (W0 : BaseF) (callf : CallF) (kP : KP) (kN : KN) (dsts : List Path) (l : List DInst) : List (DInst × AVal) → List Path → Tmps → List ADef → AHeap → CallRes :=
  List.rec (motive := fun _ => List (DInst × AVal) → List Path → Tmps → List ADef → AHeap → CallRes) (fun _ _ T D H => kN T D H)
    (fun x _ ih seen U T D H => guardK U x.ins.guard T
      (fun T => match x.ins.run with
        | .pure f => pvK (f T) fun v => ih ((x, v) :: seen) U (putT T x.ins.dst v) D H
        | .alloc f => alK (f T) H fun v H => chkK (recheck W0 0 T H seen) (ih ((x, v) :: seen) U (putT T x.ins.dst v) D H)
        | .read f => pvK (f W0 T H) fun v => ih ((x, v) :: seen) U (putT T x.ins.dst v) D H
        | .chain f => outK (f W0 callf T H) (fun v H => kP v (anyAll T dsts) D H) (fun v H => chkK (recheck W0 x.mask T H seen) (ih seen U (putT T x.ins.dst v) D H))
        | .recover => .stuck)
      (fun T => ih seen (undU x.ins.dst U) (putT T x.ins.dst .undef) D H)) l

def loopK (body : KN → KN) (n : Nat) : KN :=
  Nat.rec (motive := fun _ => KN) (fun _ _ _ => .stuck) (fun _ ih T D H => body ih T D H) n

theorem loopK_succ (body : KN → KN) (m : Nat) (T : Tmps) (D : List ADef) (H : AHeap) : loopK body (m + 1) T D H = body (loopK body m) T D H := rfl

/-- a slot by its number -/
def tt (T : Tmps) (i : Nat) : AVal := getT T (.of i)

def codeK (W0 : BaseF) (callf : CallF) (n : Nat) (kR : KN) (kP : KP) (c : ACode) : Flg → (Nat → KN) → KN → KN :=
  ACode.rec (motive := fun _ => Flg → (Nat → KN) → KN → KN)
    (fun _ _ kN T D H => kN T D H)
    (fun ops fl _ kN T D H => opsK W0 callf fl.on kP kN ops [] T D H)
    (fun l dsts _ _ kN T D H => drwK W0 callf kP kN dsts l [] [] T D H)
    (fun _ _ ia ib fl kX kN T D H => ia fl.fst kX (ib fl.snd kX kN) T D H)
    (fun c _ _ ia ib fl kX kN T D H => condK (ev T c) (ia fl kX kN T D H) (ib fl kX kN T D H))
    (fun id _ ic fl kX kN T D H => ic fl (fun i T D H => bif Nat.beq i id then kN T D H else kX i T D H) kN T D H)
    (fun _ ic fl kX _ T D H => loopK (ic fl kX) n T D H)
    (fun id _ kX _ T D H => kX id T D H)
    (fun _ _ _ T D H => kR T D H)
    (fun _ _ _ _ _ _ => .stuck) c

def leaveK (r : MRes) (k : AHeap → CallRes) : CallRes := match r with
  | .res .ret H => k H
  | .res (.pan v false) H => .pan v H
  | _ => .stuck

def callK (F : FnsF) (W0 : BaseF) (prim : PrimF) (fl : Flg) (n : Nat) (callf : CallF) (f : FuncId) (args : List AVal) (H : AHeap) : CallRes :=
  match prim f with
  | some g => g args H
  | none => match F f with
    | some fn => bif Nat.ble args.length fn.nt then
        codeK W0 callf n
          (fun T D H => leaveK (leaveA F W0 callf n D .ret H) fun H => resC (resA W0 T H fn.res) H)
          (fun v T D H => leaveK (leaveA F W0 callf n D (.pan v false) H) fun H => resC (resA W0 T H fn.res) H)
          fn.body fl (fun _ _ _ _ => .stuck)
          (fun T D H => leaveK (leaveA F W0 callf n D .ret H) fun H => resC (resA W0 T H fn.res) H) (frameOf args) [] H else .stuck
    | none => .stuck

/-! ## it says nothing that the machine does not -/
def Below (r r' : CallRes) : Prop := r ≠ .stuck → r' = r

theorem Below.refl (r : CallRes) : Below r r := fun _ => rfl
theorem Below.stuck (r : CallRes) : Below .stuck r := fun h => absurd rfl h
theorem Below.trans {a b c : CallRes} (h : Below a b) (h' : Below b c) : Below a c := fun ha => by
  have e := h ha
  have := h' (by rw [e]; exact ha)
  rw [this, e]

def finK (r : CRes) (kR : KN) (kP : KP) (kX : Nat → KN) (kN : KN) : CallRes := match r with
  | .stuck => .stuck
  | .res .normal T D H => kN T D H
  | .res .ret T D H => kR T D H
  | .res (.exit i) T D H => kX i T D H
  | .res (.pan v) T D H => kP v T D H

theorem setP_getP {α : Type} {v : α} : ∀ (p : Path) (t : Tree α), t.getP p = some v → t.setP (some v) p = t
  | .here, .leaf, h => by exact absurd h (by simp [Tree.getP, Tree.val])
  | .here, .node l x r, h => by
    have : x = some v := h
    subst this; rfl
  | .lft p, .leaf, h => by
    have : Tree.getP p (.leaf : Tree α) = some v := h
    exact absurd this (by
      clear h this
      induction p with
      | here => simp [Tree.getP, Tree.val]
      | lft p ih => exact ih
      | rgt p ih => exact ih)
  | .lft p, .node l x r, h => by
    show Tree.node (l.setP (some v) p) x r = _
    rw [setP_getP p l h]
  | .rgt p, .leaf, h => by
    have : Tree.getP p (.leaf : Tree α) = some v := h
    exact absurd this (by
      clear h this
      induction p with
      | here => simp [Tree.getP, Tree.val]
      | lft p ih => exact ih
      | rgt p ih => exact ih)
  | .rgt p, .node l x r, h => by
    show Tree.node l x (r.setP (some v) p) = _
    rw [setP_getP p r h]

theorem setT_self {T : Tmps} {p : Path} {b : Bool} (h : getT T p = .bool b) : setT T p (.bool b) = T := by
  unfold getT at h
  unfold setT
  cases e : T.getP p with
  | none => rw [e] at h; exact absurd h (by simp [orUndef, AVal.undef])
  | some v =>
    rw [e] at h
    simp only [orUndef] at h
    subst h
    exact setP_getP p T e

theorem guardK_ok {U : List Path} {g : Option (Path × Bool)} {T : Tmps} {run skip : Tmps → CallRes} {r : CallRes}
    (h1 : wantedA T g = some true → Below (run T) r) (h2 : wantedA T g = some false → Below (skip T) r) : Below (guardK U g T run skip) r := by
  unfold guardK
  cases g with
  | none => exact h1 rfl
  | some q =>
    obtain ⟨p, want⟩ := q
    simp only
    cases memP p U with
    | true =>
      simp only [cond_true, undK, lay9, lay8, lay7, lay6, lay5, lay4, lay3, lay2, lay1]
      split
      · rename_i e
        exact h2 (by simp [wantedA, e])
      · exact Below.stuck _
    | false =>
      simp only [cond_false, condK, lay9, lay8, lay7, lay6, lay5, lay4, lay3, lay2, lay1]
      split
      · rename_i e
        rw [setT_self e]
        cases want with
        | true => exact h1 (by simp [wantedA, e])
        | false => exact h2 (by simp [wantedA, e])
      · rename_i e
        rw [setT_self e]
        cases want with
        | true => exact h2 (by simp [wantedA, e])
        | false => exact h1 (by simp [wantedA, e])
      · exact Below.stuck _

theorem opsK_cons {W0 : BaseF} {callf : CallF} {fl : Bool} {kP : KP} {kN : KN} {i : AInst} {l : List AInst} {U : List Path} {T : Tmps} {D : List ADef} {H : AHeap} :
    opsK W0 callf fl kP kN (i :: l) U T D H = guardK U i.guard T
      (fun T => match i.run with
        | .pure f => pvK (f T) fun v => opsK W0 callf fl kP kN l U (putT T i.dst v) D H
        | .alloc f => alK (f T) H fun v H => opsK W0 callf fl kP kN l U (putT T i.dst v) D H
        | .read f => pvK (f W0 T H) fun v => opsK W0 callf fl kP kN l U (putT T i.dst v) D H
        | .chain f => bif fl then outD (f W0 callf T H) (fun v H => opsK W0 callf fl kP kN l U (putT T i.dst v) D H) (fun v H => kP v T D H) (fun d => opsK W0 callf fl kP kN l U (putT T i.dst .undef) (d :: D) H)
            else outK (f W0 callf T H) (fun v H => kP v T D H) (fun v H => opsK W0 callf fl kP kN l U (putT T i.dst v) D H)
        | .recover => .stuck)
      (fun T => opsK W0 callf fl kP kN l (undU i.dst U) (putT T i.dst .undef) D H) := rfl

theorem drwK_cons {W0 : BaseF} {callf : CallF} {kP : KP} {kN : KN} {dsts : List Path} {x : DInst} {l : List DInst} {seen : List (DInst × AVal)} {U : List Path} {T : Tmps} {D : List ADef} {H : AHeap} :
    drwK W0 callf kP kN dsts (x :: l) seen U T D H = guardK U x.ins.guard T
      (fun T => match x.ins.run with
        | .pure f => pvK (f T) fun v => drwK W0 callf kP kN dsts l ((x, v) :: seen) U (putT T x.ins.dst v) D H
        | .alloc f => alK (f T) H fun v H => chkK (recheck W0 0 T H seen) (drwK W0 callf kP kN dsts l ((x, v) :: seen) U (putT T x.ins.dst v) D H)
        | .read f => pvK (f W0 T H) fun v => drwK W0 callf kP kN dsts l ((x, v) :: seen) U (putT T x.ins.dst v) D H
        | .chain f => outK (f W0 callf T H) (fun v H => kP v (anyAll T dsts) D H) (fun v H => chkK (recheck W0 x.mask T H seen) (drwK W0 callf kP kN dsts l seen U (putT T x.ins.dst v) D H))
        | .recover => .stuck)
      (fun T => drwK W0 callf kP kN dsts l seen (undU x.ins.dst U) (putT T x.ins.dst .undef) D H) := rfl

theorem opsK_ok {W0 : BaseF} {callf : CallF} {fl : Bool} {kR : KN} {kP : KP} {kX : Nat → KN} {kN kN' : KN} (hN : ∀ T D H, Below (kN T D H) (kN' T D H)) :
    ∀ (l : List AInst) (U : List Path) (T : Tmps) (D : List ADef) (H : AHeap), Below (opsK W0 callf fl kP kN l U T D H) (finK (aops W0 callf l T D H) kR kP kX kN')
  | [], U, T, D, H => hN T D H
  | i :: l, U, T, D, H => by
    have ih := opsK_ok (W0 := W0) (callf := callf) (fl := fl) (kR := kR) (kP := kP) (kX := kX) hN l
    have e1 : aops W0 callf (i :: l) T D H = (match wantedA T i.guard with
      | some true => nextA (runA W0 callf T H i.run) i.dst T D (aops W0 callf l) H
      | some false => aops W0 callf l (putT T i.dst .undef) D H
      | none => .stuck) := rfl
    rw [opsK_cons, e1]
    refine guardK_ok (fun e => ?_) (fun e => ?_)
    · rw [e]
      simp only
      cases hr : i.run with
      | pure f =>
        simp only [runA]
        cases hf : f T with
        | none => exact Below.stuck _
        | some v => exact ih _ _ _ _
      | alloc f =>
        simp only [runA]
        cases hf : f T with
        | none => exact Below.stuck _
        | some v => exact ih _ _ _ _
      | read f =>
        simp only [runA]
        cases hf : f W0 T H with
        | none => exact Below.stuck _
        | some v => exact ih _ _ _ _
      | chain f =>
        simp only [runA]
        cases fl with
        | true =>
          simp only [cond_true]
          cases hf : f W0 callf T H with
          | stuck => exact Below.stuck _
          | val v H => exact ih _ _ _ _
          | pan v H => exact Below.refl _
          | dfr d => exact ih _ _ _ _
        | false =>
          simp only [cond_false]
          cases hf : f W0 callf T H with
          | stuck => exact Below.stuck _
          | val v H => exact ih _ _ _ _
          | pan v H => exact Below.refl _
          | dfr d => exact Below.stuck _
      | recover => exact Below.stuck _
    · rw [e]
      exact ih _ _ _ _

theorem drwK_ok {W0 : BaseF} {callf : CallF} {kR : KN} {kP : KP} {kX : Nat → KN} {kN kN' : KN} {dsts : List Path} (hN : ∀ T D H, Below (kN T D H) (kN' T D H)) :
    ∀ (l : List DInst) (seen : List (DInst × AVal)) (U : List Path) (T : Tmps) (D : List ADef) (H : AHeap), Below (drwK W0 callf kP kN dsts l seen U T D H) (finK (adrw W0 callf dsts l seen T D H) kR kP kX kN')
  | [], seen, U, T, D, H => hN T D H
  | x :: l, seen, U, T, D, H => by
    have ih := drwK_ok (W0 := W0) (callf := callf) (kR := kR) (kP := kP) (kX := kX) (dsts := dsts) hN l
    have e1 : adrw W0 callf dsts (x :: l) seen T D H = (match wantedA T x.ins.guard with
      | some true => nextD (runA W0 callf T H x.ins.run) x T D seen dsts W0 (adrw W0 callf dsts l)
      | some false => adrw W0 callf dsts l seen (putT T x.ins.dst .undef) D H
      | none => .stuck) := rfl
    rw [drwK_cons, e1]
    refine guardK_ok (fun e => ?_) (fun e => ?_)
    · rw [e]
      simp only
      cases hr : x.ins.run with
      | pure f =>
        simp only [runA]
        cases hf : f T with
        | none => exact Below.stuck _
        | some v =>
          simp only [pv, nextD, hr, ARun.isChain, ARun.isAlloc, pvK, cond_false, Bool.false_and]
          exact ih _ _ _ _ _
      | alloc f =>
        simp only [runA]
        cases hf : f T with
        | none => exact Below.stuck _
        | some v =>
          obtain ⟨o, mk⟩ := v
          simp only [allocA, nextD, hr, ARun.isChain, ARun.isAlloc, alK, cond_false, Bool.true_and, chkK]
          cases recheck W0 0 T (H.new o) seen with
          | true => exact ih _ _ _ _ _
          | false => exact Below.stuck _
      | read f =>
        simp only [runA]
        cases hf : f W0 T H with
        | none => exact Below.stuck _
        | some v =>
          simp only [pv, nextD, hr, ARun.isChain, ARun.isAlloc, pvK, cond_false, Bool.false_and]
          exact ih _ _ _ _ _
      | chain f =>
        simp only [runA]
        cases hf : f W0 callf T H with
        | stuck => exact Below.stuck _
        | val v H =>
          simp only [nextD, hr, ARun.isChain, outK, cond_true, chkK]
          cases recheck W0 x.mask T H seen with
          | true => exact ih _ _ _ _ _
          | false => exact Below.stuck _
        | pan v H =>
          simp only [nextD, hr, ARun.isChain, outK, cond_true]
          exact Below.refl _
        | dfr d => exact Below.stuck _
      | recover => exact Below.stuck _
    · rw [e]
      exact ih _ _ _ _ _

theorem finK_mono {r : CRes} {kR : KN} {kP : KP} {kX kX' : Nat → KN} {kN kN' : KN} (hX : ∀ i T D H, Below (kX i T D H) (kX' i T D H)) (hN : ∀ T D H, Below (kN T D H) (kN' T D H)) :
    Below (finK r kR kP kX kN) (finK r kR kP kX' kN') := by
  cases r with
  | stuck => exact Below.refl _
  | res e T D H => cases e with
    | normal => exact hN _ _ _
    | exit i => exact hX _ _ _ _
    | ret => exact Below.refl _
    | pan v => exact Below.refl _

theorem codeK_ok {W0 : BaseF} {callf : CallF} {n : Nat} {kR : KN} {kP : KP} : ∀ (c : ACode) (fl : Flg) {kX kX' : Nat → KN} {kN kN' : KN}
    (_ : ∀ i T D H, Below (kX i T D H) (kX' i T D H)) (_ : ∀ T D H, Below (kN T D H) (kN' T D H)) (T : Tmps) (D : List ADef) (H : AHeap),
    Below (codeK W0 callf n kR kP c fl kX kN T D H) (finK (acode W0 callf n c T D H) kR kP kX' kN') := by
  intro c
  induction c with
  | skip => intro fl kX kX' kN kN' hX hN T D H; exact hN T D H
  | seg ops => intro fl kX kX' kN kN' hX hN T D H; exact opsK_ok hN ops _ _ _ _
  | drw l dsts => intro fl kX kX' kN kN' hX hN T D H; exact drwK_ok hN l _ _ _ _ _
  | seq a b iha ihb =>
    intro fl kX kX' kN kN' hX hN T D H
    have h1 := iha fl.fst hX (fun T D H => ihb fl.snd hX hN T D H) T D H
    refine Below.trans h1 ?_
    show Below _ (finK (thenC (acode W0 callf n a T D H) (acode W0 callf n b)) kR kP kX' kN')
    cases acode W0 callf n a T D H with
    | stuck => exact Below.refl _
    | res e T D H => cases e <;> exact Below.refl _
  | cond c a b iha ihb =>
    intro fl kX kX' kN kN' hX hN T D H
    show Below (condK (ev T c) _ _) (finK (condC (ev T c) (acode W0 callf n a T D H) (acode W0 callf n b T D H)) kR kP kX' kN')
    simp only [condK, lay9, lay8, lay7, lay6, lay5, lay4, lay3, lay2, lay1]
    split
    · rename_i e; rw [e]; exact iha fl hX hN T D H
    · rename_i e; rw [e]; exact ihb fl hX hN T D H
    · exact Below.stuck _
  | block id c ih =>
    intro fl kX kX' kN kN' hX hN T D H
    have h1 := ih fl (kX := fun i T D H => bif Nat.beq i id then kN T D H else kX i T D H) (kX' := fun i T D H => bif Nat.beq i id then kN' T D H else kX' i T D H)
      (fun i T D H => by cases Nat.beq i id with | true => exact hN _ _ _ | false => exact hX _ _ _ _) hN T D H
    refine Below.trans h1 ?_
    show Below _ (finK (blockC id (acode W0 callf n c T D H)) kR kP kX' kN')
    cases acode W0 callf n c T D H with
    | stuck => exact Below.refl _
    | res e T D H =>
      cases e with
      | exit i =>
        simp only [finK, blockC]
        cases Nat.beq i id <;> exact Below.refl _
      | _ => exact Below.refl _
  | loop c ih =>
    intro fl kX kX' kN kN' hX hN T D H
    show Below (loopK (codeK W0 callf n kR kP c fl kX) n T D H) (finK (loopC (acode W0 callf n c) n T D H) kR kP kX' kN')
    have : ∀ m T D H, Below (loopK (codeK W0 callf n kR kP c fl kX) m T D H) (finK (loopC (acode W0 callf n c) m T D H) kR kP kX' kN') := by
      intro m
      induction m with
      | zero => intro T D H; exact Below.stuck _
      | succ m ihm =>
        intro T D H
        have h1 := ih fl (kN := loopK (codeK W0 callf n kR kP c fl kX) m) (kN' := fun T D H => finK (loopC (acode W0 callf n c) m T D H) kR kP kX' kN') hX ihm T D H
        refine Below.trans h1 ?_
        show Below _ (finK (thenC (acode W0 callf n c T D H) (loopC (acode W0 callf n c) m)) kR kP kX' kN')
        cases acode W0 callf n c T D H with
        | stuck => exact Below.refl _
        | res e T D H => cases e <;> exact Below.refl _
    exact this n T D H
  | exit id => intro fl kX kX' kN kN' hX hN T D H; exact hX _ _ _ _
  | ret => intro fl kX kX' kN kN' hX hN T D H; exact Below.refl _
  | stop => intro fl kX kX' kN kN' hX hN T D H; exact Below.stuck _

theorem endA_leave {F : FnsF} {W0 : BaseF} {callf : CallF} {n : Nat} {res : List ARV} {m : AMode} {T : Tmps} {D : List ADef} {H : AHeap} :
    endA F W0 callf n res m T D H = leaveK (leaveA F W0 callf n D m H) fun H => resC (resA W0 T H res) H := by
  unfold endA leaveK
  cases leaveA F W0 callf n D m H with
  | stuck => rfl
  | res m H => cases m with
    | ret => rfl
    | pan v t => cases t <;> rfl

theorem callK_ok {F : FnsF} {W0 : BaseF} {prim : PrimF} (fl : Flg) (n : Nat) (f : FuncId) (args : List AVal) (H : AHeap) :
    Below (callK F W0 prim fl n (acall F W0 prim n) f args H) (acall F W0 prim (n + 1) f args H) := by
  unfold callK
  rw [acall]
  cases prim f with
  | some g => exact Below.refl _
  | none =>
    cases F f with
    | none => exact Below.refl _
    | some fn =>
      simp only
      cases Nat.ble args.length fn.nt with
      | false => exact Below.refl _
      | true =>
        simp only [cond_true]
        refine Below.trans (codeK_ok fn.body fl (kX' := fun _ _ _ _ => .stuck) (fun _ _ _ _ => Below.refl _) (fun _ _ _ => Below.refl _) _ _ _) ?_
        unfold bodyEnd finK
        cases acode W0 (acall F W0 prim n) n fn.body (frameOf args) [] H with
        | stuck => exact Below.refl _
        | res e T D H => cases e with
          | normal => simp only [endA_leave]; exact Below.refl _
          | ret => simp only [endA_leave]; exact Below.refl _
          | exit i => exact Below.refl _
          | pan v => simp only [endA_leave]; exact Below.refl _

/-- a call of a function whose code is known, run with what comes behind -/
theorem callK_run {F : FnsF} {W0 : BaseF} {prim : PrimF} {fl : Flg} {n : Nat} {f : FuncId} {args : List AVal} {H : AHeap} {nt : Nat} {body : ACode} {res : List ARV}
    (hp : prim f = none) (hf : F f = some ⟨nt, body, res⟩) (hl : Nat.ble args.length nt = true) :
    Below (codeK W0 (acall F W0 prim n) n
        (fun T D H => leaveK (leaveA F W0 (acall F W0 prim n) n D .ret H) fun H => resC (resA W0 T H res) H)
        (fun v T D H => leaveK (leaveA F W0 (acall F W0 prim n) n D (.pan v false) H) fun H => resC (resA W0 T H res) H)
        body fl (fun _ _ _ _ => .stuck)
        (fun T D H => leaveK (leaveA F W0 (acall F W0 prim n) n D .ret H) fun H => resC (resA W0 T H res) H) (frameOf args) [] H) (acall F W0 prim (n + 1) f args H) := by
  have h := callK_ok (F := F) (W0 := W0) (prim := prim) fl n f args H
  simp only [callK, hp, hf, hl, cond_true] at h
  exact h

theorem acall_of_K {F : FnsF} {W0 : BaseF} {prim : PrimF} {fl : Flg} {n : Nat} {f : FuncId} {args : List AVal} {H H' : AHeap} {v : AVal} {r : CallRes}
    (h : callK F W0 prim fl n (acall F W0 prim n) f args H = r) (hr : r = .ret v H') : acall F W0 prim (n + 1) f args H = .ret v H' := by
  have := callK_ok (F := F) (W0 := W0) (prim := prim) fl n f args H
  rw [h, hr] at this
  exact this (by simp)

theorem Below.run {F : FnsF} {W0 : BaseF} {prim : PrimF} {fl : Flg} {n : Nat} {f : FuncId} {args : List AVal} {H : AHeap} {r : CallRes}
    (h : callK F W0 prim fl n (acall F W0 prim n) f args H = r) : Below r (acall F W0 prim (n + 1) f args H) := by
  rw [← h]; exact callK_ok fl n f args H

theorem Below.of_eq {a b : CallRes} (h : b = a) : Below a b := fun _ => h
theorem Below.eqr {a b c : CallRes} (h : Below a b) (e : c = b) : Below a c := fun ha => e.trans (h ha)
theorem Below.eql {a b c : CallRes} (h : Below b c) (e : a = b) : Below a c := by rw [e]; exact h

theorem Below.conv {a a' b b' : CallRes} (h : Below a b) (e : a' = a) (e' : b' = b) : Below a' b' := by rw [e, e']; exact h

/-- a call's result, through its plain form -/
theorem Below.ret {a b : CallRes} {v : AVal} {H : AHeap} (h : Below a b) (e : a = .ret v H) : b = .ret v H := by
  rw [e] at h; exact h (by simp)

def resL : List (Option AVal) → Option (List AVal)
  | [] => some []
  | r :: rs => match r with
    | some v => match resL rs with
      | some vs => some (v :: vs)
      | none => none
    | none => none

theorem condK_mono {c : AVal} {a b a' b' : CallRes} (ha : Below a a') (hb : Below b b') : Below (condK c a b) (condK c a' b') := by
  simp only [condK, lay9, lay8, lay7, lay6, lay5, lay4, lay3, lay2, lay1]
  split
  · exact ha
  · exact hb
  · exact Below.refl _

theorem pvK_mono {o : Option AVal} {k k' : AVal → CallRes} (h : ∀ v, Below (k v) (k' v)) : Below (pvK o k) (pvK o k') := by
  cases o with
  | none => exact Below.refl _
  | some v => exact h v
theorem alK_mono {r : Option (AObj × (Nat → AVal))} {H : AHeap} {k k' : AVal → AHeap → CallRes} (h : ∀ v H, Below (k v H) (k' v H)) : Below (alK r H k) (alK r H k') := by
  cases r with
  | none => exact Below.refl _
  | some v => exact h _ _
theorem outK_mono {o : AOut} {kp k k' : AVal → AHeap → CallRes} (h : ∀ v H, Below (k v H) (k' v H)) : Below (outK o kp k) (outK o kp k') := by
  cases o with
  | val v H => exact h _ _
  | _ => exact Below.refl _
theorem outD_mono {o : AOut} {kp k k' : AVal → AHeap → CallRes} {kd kd' : ADef → CallRes} (h : ∀ v H, Below (k v H) (k' v H)) (hd : ∀ d, Below (kd d) (kd' d)) : Below (outD o k kp kd) (outD o k' kp kd') := by
  cases o with
  | val v H => exact h _ _
  | dfr d => exact hd _
  | _ => exact Below.refl _
theorem chkK_mono {b : Bool} {a a' : CallRes} (h : Below a a') : Below (chkK b a) (chkK b a') := by
  cases b with
  | true => exact h
  | false => exact Below.refl _
theorem guardK_mono {U : List Path} {g : Option (Path × Bool)} {T : Tmps} {run skip run' skip' : Tmps → CallRes} (h1 : ∀ T, Below (run T) (run' T)) (h2 : ∀ T, Below (skip T) (skip' T)) :
    Below (guardK U g T run skip) (guardK U g T run' skip') := by
  unfold guardK
  cases g with
  | none => exact h1 T
  | some q =>
    obtain ⟨p, want⟩ := q
    simp only
    cases memP p U with
    | true =>
      simp only [cond_true, undK, lay9, lay8, lay7, lay6, lay5, lay4, lay3, lay2, lay1]
      split
      · exact h2 _
      · exact Below.refl _
    | false =>
      cases want with
      | true => exact condK_mono (h1 _) (h2 _)
      | false => exact condK_mono (h2 _) (h1 _)

theorem opsK_mono {W0 : BaseF} {callf : CallF} {kP : KP} {D : List ADef} {kN kN' : KN} (hN : ∀ T H, Below (kN T D H) (kN' T D H)) :
    ∀ (l : List AInst) (U : List Path) (T : Tmps) (H : AHeap), Below (opsK W0 callf false kP kN l U T D H) (opsK W0 callf false kP kN' l U T D H)
  | [], U, T, H => hN T H
  | i :: l, U, T, H => by
    have ih := opsK_mono (W0 := W0) (callf := callf) (kP := kP) hN l
    rw [opsK_cons, opsK_cons]
    refine guardK_mono (fun T => ?_) (fun T => ih _ _ _)
    cases i.run with
    | pure f => exact pvK_mono fun v => ih _ _ _
    | alloc f => exact alK_mono fun v H => ih _ _ _
    | read f => exact pvK_mono fun v => ih _ _ _
    | chain f => exact outK_mono fun v H => ih _ _ _
    | recover => exact Below.refl _

theorem drwK_mono {W0 : BaseF} {callf : CallF} {kP : KP} {D : List ADef} {dsts : List Path} {kN kN' : KN} (hN : ∀ T H, Below (kN T D H) (kN' T D H)) :
    ∀ (l : List DInst) (seen : List (DInst × AVal)) (U : List Path) (T : Tmps) (H : AHeap), Below (drwK W0 callf kP kN dsts l seen U T D H) (drwK W0 callf kP kN' dsts l seen U T D H)
  | [], seen, U, T, H => hN T H
  | x :: l, seen, U, T, H => by
    have ih := drwK_mono (W0 := W0) (callf := callf) (kP := kP) (dsts := dsts) hN l
    rw [drwK_cons, drwK_cons]
    refine guardK_mono (fun T => ?_) (fun T => ih _ _ _ _)
    cases x.ins.run with
    | pure f => exact pvK_mono fun v => ih _ _ _ _
    | alloc f => exact alK_mono fun v H => chkK_mono (ih _ _ _ _)
    | read f => exact pvK_mono fun v => ih _ _ _ _
    | chain f => exact outK_mono fun v H => chkK_mono (ih _ _ _ _)
    | recover => exact Below.refl _

theorem codeK_mono {W0 : BaseF} {callf : CallF} {n : Nat} {kR : KN} {kP : KP} {D : List ADef} : ∀ (c : ACode) {kX kX' : Nat → KN} {kN kN' : KN}
    (_ : ∀ i T H, Below (kX i T D H) (kX' i T D H)) (_ : ∀ T H, Below (kN T D H) (kN' T D H)) (T : Tmps) (H : AHeap),
    Below (codeK W0 callf n kR kP c .no kX kN T D H) (codeK W0 callf n kR kP c .no kX' kN' T D H) := by
  intro c
  induction c with
  | skip => intro kX kX' kN kN' hX hN T H; exact hN T H
  | seg ops => intro kX kX' kN kN' hX hN T H; exact opsK_mono hN ops _ _ _
  | drw l dsts => intro kX kX' kN kN' hX hN T H; exact drwK_mono hN l _ _ _ _
  | seq a b iha ihb =>
    intro kX kX' kN kN' hX hN T H
    exact iha hX (fun T H => ihb hX hN T H) T H
  | cond c a b iha ihb =>
    intro kX kX' kN kN' hX hN T H
    exact condK_mono (iha hX hN T H) (ihb hX hN T H)
  | block id c ih =>
    intro kX kX' kN kN' hX hN T H
    exact ih (fun i T H => by cases h : Nat.beq i id with | true => simp only [h, cond_true]; exact hN _ _ | false => simp only [h, cond_false]; exact hX _ _ _) hN T H
  | loop c ih =>
    intro kX kX' kN kN' hX hN T H
    have : ∀ m T H, Below (loopK (codeK W0 callf n kR kP c .no kX) m T D H) (loopK (codeK W0 callf n kR kP c .no kX') m T D H) := by
      intro m
      induction m with
      | zero => intro T H; exact Below.refl _
      | succ m ihm => intro T H; exact ih hX ihm T H
    exact this n T H
  | exit id => intro kX kX' kN kN' hX hN T H; exact hX _ _ _
  | ret => intro kX kX' kN kN' hX hN T H; exact Below.refl _
  | stop => intro kX kX' kN kN' hX hN T H; exact Below.refl _

def ACode.sa : ACode → ACode
  | .seq a _ => a
  | .cond _ a _ => a
  | .block _ a => a
  | .loop a => a
  | c => c
def ACode.sb : ACode → ACode
  | .seq _ b => b
  | .cond _ _ b => b
  | c => c

end
end Am

namespace Am
open Go

variable {W0 : BaseF} {H H' : AHeap}

@[simp] theorem pvK_some (v : AVal) (k : AVal → CallRes) : pvK (some v) k = k v := (rfl)
@[simp] theorem alK_some (o : AObj) (mk : Nat → AVal) (H : AHeap) (k : AVal → AHeap → CallRes) : alK (some (o, mk)) H k = k (mk H.next) (H.new o) := (rfl)
@[simp] theorem outK_val (v : AVal) (H : AHeap) (kp k : AVal → AHeap → CallRes) : outK (.val v H) kp k = k v H := (rfl)
@[simp] theorem outK_pan (v : AVal) (H : AHeap) (kp k : AVal → AHeap → CallRes) : outK (.pan v H) kp k = kp v H := (rfl)
@[simp] theorem callR_ret (v : AVal) (H : AHeap) : callR (.ret v H) = .val v H := (rfl)
@[simp] theorem condK_true (a b : CallRes) : condK (.bool true) a b = a := (rfl)
@[simp] theorem condK_false (a b : CallRes) : condK (.bool false) a b = b := (rfl)
@[simp] theorem chkK_true (a : CallRes) : chkK true a = a := (rfl)
@[simp] theorem pv_some (v : AVal) (H : AHeap) : pv (some v) H = .val v H := (rfl)
@[simp] theorem pv2_some (v : AVal) (H : AHeap) : pv2 (some (v, H)) = .val v H := (rfl)
@[simp] theorem pvH_some (v : AVal) (H : AHeap) : pvH v (some H) = .val v H := (rfl)

theorem condK_dec (p : Prop) [Decidable p] (a b : CallRes) : condK (.bool (decide p)) a b = if p then a else b := by
  by_cases h : p <;> simp [h]

/-! heaps -/
theorem get_new_self (H : AHeap) (o : AObj) {j : Nat} (h : j = H.next) : (H.new o).get j = some o := by rw [AHeap.get_new, if_pos h]
theorem get_new_ne (H : AHeap) (o : AObj) {j : Nat} (h : j ≠ H.next) : (H.new o).get j = H.get j := by rw [AHeap.get_new, if_neg h]
theorem get_set_self (H : AHeap) (o : Option AObj) (j : Nat) : (H.set j o).get j = o := by rw [AHeap.get_set, if_pos rfl]
theorem get_set_ne (H : AHeap) (o : Option AObj) {i j : Nat} (h : j ≠ i) : (H.set i o).get j = H.get j := by rw [AHeap.get_set, if_neg h]

/-- a heap behind another: what lay there is as it was, but for the places of S -/
structure Ext (S : Nat → Prop) (H H' : AHeap) : Prop where
  next : H.next ≤ H'.next
  get : ∀ i, i < H.next → ¬ S i → H'.get i = H.get i

def no : Nat → Prop := fun _ => False
def at1 (a : Nat) : Nat → Prop := fun i => i = a
def at2 (a b : Nat) : Nat → Prop := fun i => i = a ∨ i = b

theorem Ext.refl (S : Nat → Prop) (H : AHeap) : Ext S H H := ⟨Nat.le_refl _, fun _ _ _ => rfl⟩
theorem Ext.trans {S : Nat → Prop} {H'' : AHeap} (h : Ext S H H') (h' : Ext S H' H'') : Ext S H H'' :=
  ⟨Nat.le_trans h.next h'.next, fun i hi hs => (h'.get i (Nat.lt_of_lt_of_le hi h.next) hs).trans (h.get i hi hs)⟩
theorem Ext.mono {S S' : Nat → Prop} (h : Ext S H H') (hs : ∀ i, i < H.next → S i → S' i) : Ext S' H H' :=
  ⟨h.next, fun i hi q => h.get i hi fun q' => q (hs i hi q')⟩
theorem Ext.new {S : Nat → Prop} (h : Ext S H H') (o : AObj) : Ext S H (H'.new o) :=
  ⟨by have := h.next; simp; omega, fun i hi hs => by rw [get_new_ne _ _ (by have := h.next; omega)]; exact h.get i hi hs⟩
theorem Ext.set {S : Nat → Prop} (h : Ext S H H') {i : Nat} (o : Option AObj) (hi : S i ∨ H.next ≤ i) : Ext S H (H'.set i o) :=
  ⟨h.next, fun j hj hs => by
    rw [get_set_ne _ _ (by intro e; subst e; rcases hi with q | q; exact hs q; omega)]; exact h.get j hj hs⟩
/-- what is new or may change, seen from an earlier heap -/
theorem Ext.trans' {S S' : Nat → Prop} {H'' : AHeap} (h : Ext S H H') (h' : Ext S' H' H'') (hs : ∀ i, i < H.next → S' i → S i) : Ext S H H'' :=
  ⟨Nat.le_trans h.next h'.next, fun i hi q => (h'.get i (Nat.lt_of_lt_of_le hi h.next) fun q' => q (hs i hi q')).trans (h.get i hi q)⟩

/-- a heap holds an object at a place -/
structure Has (H : AHeap) (i : Nat) (o : AObj) : Prop where
  lt : i < H.next
  get : H.get i = some o

theorem Has.ext {S : Nat → Prop} {i : Nat} {o : AObj} (h : Has H i o) (e : Ext S H H') (hs : ¬ S i) : Has H' i o :=
  ⟨Nat.lt_of_lt_of_le h.lt e.next, (e.get i h.lt hs).trans h.get⟩
theorem Has.new {i : Nat} {o o' : AObj} (h : Has H i o) : Has (H.new o') i o := ⟨by have := h.lt; simp; omega, by rw [get_new_ne _ _ (by have := h.lt; omega)]; exact h.get⟩
theorem Has.made (H : AHeap) (o : AObj) : Has (H.new o) H.next o := ⟨by simp, get_new_self _ _ rfl⟩
theorem Has.set {i j : Nat} {o : AObj} {o' : Option AObj} (h : Has H i o) (hn : i ≠ j) : Has (H.set j o') i o := ⟨h.lt, by rw [get_set_ne _ _ hn]; exact h.get⟩
theorem Has.put {i : Nat} {o o' : AObj} (h : Has H i o) : Has (H.set i (some o')) i o' := ⟨h.lt, get_set_self _ _ _⟩

/-! loads and stores -/
theorem load1 {i o : Nat} {ty : TypeId} {cs : List AVal} {st : Bool} (h : H.get i = some (.cells ty cs st)) : xLoad1 W0 (.ptr (some ⟨.loc i, o⟩)) H = nthN o cs := by
  simp [xLoad1, read1, blkCells, h]
theorem loadN {i o n : Nat} {ty : TypeId} {cs : List AVal} {st : Bool} (h : H.get i = some (.cells ty cs st)) (hn : n ≠ 0) : xLoadN W0 n (.ptr (some ⟨.loc i, o⟩)) H = aggO (takeN n (dropN o cs)) := by
  cases n with
  | zero => exact absurd rfl hn
  | succ n => simp [xLoadN, readN, blkCells, h]
theorem store1 {i o n : Nat} {x : AVal} {ty : TypeId} {cs cs' : List AVal} {st : Bool} (h : H.get i = some (.cells ty cs st)) (hl : (Nat.beq x.cells.length n && allScalar x.cells) = true)
    (hx : x.cells ≠ []) (hs : setCells cs o x.cells = some cs') : xStore n (.ptr (some ⟨.loc i, o⟩)) x H = .val .undef (H.set i (some (.cells ty cs' st))) := by
  simp only [xStore, hl, cond_true]
  generalize x.cells = l at hx hs
  cases l with
  | nil => exact absurd rfl hx
  | cons a l => simp [writeCells, h, hs]

theorem iEq_dec (a b : Int) : iEq a b = decide (a = b) := by
  rw [iEq_iff, Bool.eq_iff_iff]; simp

end Am
