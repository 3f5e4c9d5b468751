/- The abstract machine: begun() as a primitive: it returns true, and leaves all that there was. -/
import Derived.Test.YtbhmnhgljlmafaaGreatMi
import Derived.Test.YtbhmnhgljlmafaaGreatMk
set_option linter.all false

namespace Am
open Go Go.Proofs

variable {B : Nat} {W0 : World} {H H' : AHeap}

theorem WRel.start (w : World) : WRel w.heap.size w ⟨0, .leaf⟩ (fun _ => none) w :=
  ⟨Nat.le_refl _, fun _ _ => rfl, fun _ _ h => by simp at h, fun _ _ _ _ h => by simp at h, fun _ _ _ h => by simp at h, rfl, rfl⟩

/-- a call without arguments that was run to its end on an empty heap, on any heap -/
theorem forget0 {F : FnsF} {prim : PrimF} {P : Program} (hF : FnsOK P F) (hmo : P.follows .mixedOrders = true) (hp : ∀ (B : Nat) (W0 : World), PrimOK P B W0 prim) {n : Nat} {f : FuncId}
    (h : ∃ H1, acall F (fun _ => none) prim n f [] ⟨0, .leaf⟩ = .ret (.bool true) H1) : CallOK P B W0 f [] H (.ret (.bool true) H) := by
  obtain ⟨H1, h1⟩ := h
  intro ι w args' hw ha
  have hargs : args' = #[] := by
    have : args'.toList = [] := ha
    simpa using this
  subst hargs
  have hc := acall_ok hF hmo (B := w.heap.size) (W0 := w) (W0f := fun _ => none) (fun _ _ h => by simp at h) (hp _ _) n f [] ⟨0, .leaf⟩ (by rw [h1]; simp) (fun _ => none) w #[] (WRel.start w) rfl
  rw [h1] at hc
  rcases hc with ⟨c1, c2⟩ | ⟨v, H2, v', w', ι', e1, e2, e3, e4, e5⟩
  · refine .inl ⟨c1, c2.mono fun e w' he => ?_⟩
    obtain ⟨ι', hl, hr, hv⟩ := he
    · refine ⟨ι, Later.refl H ι, hw.ext hr.size (fun b hb => hr.base b hb) hr.io, ?_⟩
      cases e with
      | returned v' => exact hv
      | _ => exact hv.elim
  · simp at e1
    obtain ⟨rfl, rfl⟩ := e1
    exact .inr ⟨.bool true, H, v', w', ι, rfl, e2, Later.refl H ι, hw.ext e4.size (fun b hb => e4.base b hb) e4.io, e5⟩

def pBegun (args : List AVal) (H : AHeap) : CallRes := match args with
  | [] => .ret (.bool true) H
  | _ => .stuck

theorem begun_ret : ∃ H1, acall Tz.F (fun _ => none) Tz.prim 3000 15 [] ⟨0, .leaf⟩ = .ret (.bool true) H1 := by
  have h := Tz.begun
  revert h
  cases acall Tz.F (fun _ => none) Tz.prim 3000 15 [] ⟨0, .leaf⟩ with
  | ret v H =>
    intro h
    cases v with
    | bool b => cases b with
      | true => exact ⟨H, rfl⟩
      | false => exact absurd h (by simp [okTrue])
    | _ => exact absurd h (by simp [okTrue])
  | _ => intro h; exact absurd h (by simp [okTrue])

theorem pBegun_ok {args : List AVal} (h : pBegun args H ≠ .stuck) : CallOK Tryz.prog B W0 15 args H (pBegun args H) := by
  unfold pBegun at h ⊢
  split at h
  · exact forget0 Tz.fnsOK Tz.mixed (fun B W0 => Tz.primOK) begun_ret
  · exact absurd rfl h

def Tz.prim2 : PrimF := fun f => bif Nat.beq f 15 then some pBegun else Tz.prim f

theorem Tz.prim2OK : PrimOK Tryz.prog B W0 Tz.prim2 := by
  intro f g h args H hs
  unfold Tz.prim2 at h
  simp only [Bool.cond_eq_ite, Tree.beq_eq, decide_eq_true_eq] at h
  split at h
  · rename_i e; subst e; simp at h; subst h; exact pBegun_ok hs
  · exact Tz.primOK f g h args H hs

end Am

namespace Am
open Go

variable {W0 : BaseF} {H : AHeap}

@[simp] theorem cells_bool (b : Bool) : AVal.cells (.bool b) = [.bool b] := (rfl)
@[simp] theorem cells_int (k : IntKind) (n : Int) : AVal.cells (.int k n) = [.int k n] := (rfl)
@[simp] theorem cells_float (k : FloatKind) (n : Nat) : AVal.cells (.float k n) = [.float k n] := (rfl)
@[simp] theorem cells_str (s : List UInt8) : AVal.cells (.str s) = [.str s] := (rfl)
@[simp] theorem cells_ptr (a : Option AAddr) : AVal.cells (.ptr a) = [.ptr a] := (rfl)
@[simp] theorem cells_slice (a : Option AAddr) (n : Nat) (c : ACap) : AVal.cells (.slice a n c) = [.slice a n c] := (rfl)
@[simp] theorem cells_map (r : Option Nat) : AVal.cells (.map r) = [.map r] := (rfl)
@[simp] theorem cells_func (f : Fn) (a b : List AVal) : AVal.cells (.func f a b) = [.func f a b] := (rfl)
@[simp] theorem cells_nilFunc : AVal.cells .nilFunc = [.nilFunc] := (rfl)
@[simp] theorem cells_iface (t : TypeId) (v : AVal) : AVal.cells (.iface t v) = [.iface t v] := (rfl)
@[simp] theorem cells_nilIface : AVal.cells .nilIface = [.nilIface] := (rfl)
@[simp] theorem cells_agg (l : List AVal) : AVal.cells (.agg l) = l := (rfl)

@[simp] theorem scalar_bool (b : Bool) : AVal.scalar (.bool b) = true := (rfl)
@[simp] theorem scalar_int (k : IntKind) (n : Int) : AVal.scalar (.int k n) = true := (rfl)
@[simp] theorem scalar_float (k : FloatKind) (n : Nat) : AVal.scalar (.float k n) = true := (rfl)
@[simp] theorem scalar_str (s : List UInt8) : AVal.scalar (.str s) = true := (rfl)
@[simp] theorem scalar_ptr (a : Option AAddr) : AVal.scalar (.ptr a) = true := (rfl)
@[simp] theorem scalar_slice (a : Option AAddr) (n : Nat) (c : ACap) : AVal.scalar (.slice a n c) = true := (rfl)
@[simp] theorem scalar_map (r : Option Nat) : AVal.scalar (.map r) = true := (rfl)
@[simp] theorem scalar_func (f : Fn) (a b : List AVal) : AVal.scalar (.func f a b) = true := (rfl)
@[simp] theorem scalar_nilFunc : AVal.scalar .nilFunc = true := (rfl)
@[simp] theorem scalar_iface (t : TypeId) (v : AVal) : AVal.scalar (.iface t v) = true := (rfl)
@[simp] theorem scalar_nilIface : AVal.scalar .nilIface = true := (rfl)
@[simp] theorem allScalar_none : allScalar [] = true := (rfl)
@[simp] theorem allScalar_mk (v : AVal) (l : List AVal) : allScalar (v :: l) = (v.scalar && allScalar l) := (rfl)

@[simp] theorem nilCheck_ptr (ms : List (String × List (TypeId × FuncId))) (a : AAddr) : xNilCheck ms (.ptr (some a)) = some (.ptr (some a)) := (rfl)
@[simp] theorem fieldAddr_ptr (off : Nat) (b : ABlk) (o : Nat) : xFieldAddr off (.ptr (some ⟨b, o⟩)) = some (.ptr (some ⟨b, o + off⟩)) := (rfl)
@[simp] theorem nthN_zero (x : AVal) (l : List AVal) : nthN 0 (x :: l) = some x := (rfl)
@[simp] theorem nthN_succ (n : Nat) (x : AVal) (l : List AVal) : nthN (n + 1) (x :: l) = nthN n l := (rfl)
@[simp] theorem takeN_zero (l : List AVal) : takeN 0 l = some [] := by cases l <;> rfl
@[simp] theorem takeN_succ (n : Nat) (x : AVal) (l : List AVal) : takeN (n + 1) (x :: l) = (match takeN n l with | some l => some (x :: l) | none => none) := (rfl)
@[simp] theorem dropN_zero (l : List AVal) : dropN 0 l = l := by cases l <;> rfl
@[simp] theorem dropN_succ (n : Nat) (x : AVal) (l : List AVal) : dropN (n + 1) (x :: l) = dropN n l := (rfl)
@[simp] theorem setCells_nil (cs : List AVal) (o : Nat) : setCells cs o [] = some cs := by cases cs <;> cases o <;> rfl
@[simp] theorem setCells_zero (c : AVal) (cs : List AVal) (v : AVal) (vs : List AVal) : setCells (c :: cs) 0 (v :: vs) = (match setCells cs 0 vs with | some l => some (v :: l) | none => none) := (rfl)
@[simp] theorem setCells_succ (c : AVal) (cs : List AVal) (n : Nat) (v : AVal) (vs : List AVal) : setCells (c :: cs) (n + 1) (v :: vs) = (match setCells cs n (v :: vs) with | some l => some (c :: l) | none => none) := (rfl)
@[simp] theorem aggO_some (l : List AVal) : aggO (some l) = some (.agg l) := (rfl)
@[simp] theorem extract_0 (v : AVal) (l : List AVal) : xExtract (.tuple (v :: l)) 0 = some v := (rfl)
@[simp] theorem extract_1 (v w : AVal) (l : List AVal) : xExtract (.tuple (v :: w :: l)) 1 = some w := (rfl)
@[simp] theorem extract_2 (v w x : AVal) (l : List AVal) : xExtract (.tuple (v :: w :: x :: l)) 2 = some x := (rfl)
@[simp] theorem extract_3 (v w x y : AVal) (l : List AVal) : xExtract (.tuple (v :: w :: x :: y :: l)) 3 = some y := (rfl)
@[simp] theorem pick_true (a b : AVal) : xPick (.bool true) a b = some a := (rfl)
@[simp] theorem pick_false (a b : AVal) : xPick (.bool false) a b = some b := (rfl)
@[simp] theorem not_bool (b : Bool) : unA .not (.bool b) = some (.bool !b) := (rfl)
@[simp] theorem negB_false (b : Bool) : negB false (some b) = some (.bool b) := (rfl)
@[simp] theorem negB_true (b : Bool) : negB true (some b) = some (.bool !b) := (rfl)
@[simp] theorem lenSl (a : Option AAddr) (n : Nat) (c : ACap) : xLenSl (.slice a n c) = some (.int .i64 n) := (rfl)
@[simp] theorem lenS (s : List UInt8) : xLenS (.str s) = some (.int .i64 s.length) := (rfl)
@[simp] theorem lss_int (k : IntKind) (a b : Int) : binA .lss (.int k a) (.int k b) = some (.bool (decide (a < b))) := by
  cases k <;> simp [binA, IntKind.beq, intOp, iLt_iff]
@[simp] theorem leq_int (k : IntKind) (a b : Int) : binA .leq (.int k a) (.int k b) = some (.bool (decide (a ≤ b))) := by
  cases k <;> simp [binA, IntKind.beq, intOp, iLt_iff, ← Int.not_lt]
@[simp] theorem gtr_int (k : IntKind) (a b : Int) : binA .gtr (.int k a) (.int k b) = some (.bool (decide (b < a))) := by
  cases k <;> simp [binA, IntKind.beq, intOp, iLt_iff]
@[simp] theorem geq_int (k : IntKind) (a b : Int) : binA .geq (.int k a) (.int k b) = some (.bool (decide (b ≤ a))) := by
  cases k <;> simp [binA, IntKind.beq, intOp, iLt_iff, ← Int.not_lt]
@[simp] theorem add_int (k : IntKind) (a b : Int) : binA .add (.int k a) (.int k b) = some (.int k (fwrap k (a + b))) := by
  cases k <;> simp [binA, IntKind.beq, intOp] <;> rfl
@[simp] theorem sub_int (k : IntKind) (a b : Int) : binA .sub (.int k a) (.int k b) = some (.int k (fwrap k (a - b))) := by
  cases k <;> simp [binA, IntKind.beq, intOp] <;> rfl
@[simp] theorem mul_int (k : IntKind) (a b : Int) : binA .mul (.int k a) (.int k b) = some (.int k (fwrap k (a * b))) := by
  cases k <;> simp [binA, IntKind.beq, intOp] <;> rfl
@[simp] theorem eqNum_int (k : IntKind) (a b : Int) : eqNum (.int k a) (.int k b) = some (decide (a = b)) := by
  cases k <;> simp [eqNum, IntKind.beq, iEq_dec]
@[simp] theorem eqBool_bool (a b : Bool) : eqBool (.bool a) (.bool b) = some (a == b) := (rfl)

theorem ble_dec (a b : Nat) : Nat.ble a b = decide (a ≤ b) := by
  rw [Bool.eq_iff_iff, Nat.ble_eq]; simp
theorem beq_dec (a b : Nat) : Nat.beq a b = decide (a = b) := Tree.beq_eq a b
theorem blt_dec (a b : Nat) : Nat.blt a b = decide (a < b) := by
  rw [Bool.eq_iff_iff, Nat.blt_eq]; simp

/-- a number that an int holds -/
theorem fwrap_id {n : Int} (h1 : -9223372036854775808 ≤ n) (h2 : n < 9223372036854775808) : fwrap .i64 n = n := by
  rw [fwrap_eq]
  exact wrap_id (by simp [IntKind.min, IntKind.signed, IntKind.bits]; omega) (by simp [IntKind.max, IntKind.signed, IntKind.bits]; omega)

@[simp] theorem convP_i64 (j k : IntKind) (n : Int) : convP (.int k) (.int j n) = some (.int k (fwrap k n)) := (rfl)
/-! loads and stores, by what the heap holds -/
def inCells (o : Option AObj) (f : TypeId → List AVal → Bool → Option AVal) : Option AVal := match o with
  | some (.cells ty cs st) => f ty cs st
  | _ => none
def inCellsO (o : Option AObj) (f : TypeId → List AVal → Bool → AOut) : AOut := match o with
  | some (.cells ty cs st) => f ty cs st
  | _ => .stuck
@[simp] theorem inCells_some (ty : TypeId) (cs : List AVal) (st : Bool) (f : TypeId → List AVal → Bool → Option AVal) : inCells (some (.cells ty cs st)) f = f ty cs st := (rfl)
@[simp] theorem inCellsO_some (ty : TypeId) (cs : List AVal) (st : Bool) (f : TypeId → List AVal → Bool → AOut) : inCellsO (some (.cells ty cs st)) f = f ty cs st := (rfl)
theorem load1_at (i o : Nat) : xLoad1 W0 (.ptr (some ⟨.loc i, o⟩)) H = inCells (H.get i) fun _ cs _ => nthN o cs := by
  simp only [xLoad1, read1, blkCells, inCells]
  cases H.get i with
  | none => rfl
  | some x => cases x <;> rfl
theorem loadN_at (n i o : Nat) : xLoadN W0 (n + 1) (.ptr (some ⟨.loc i, o⟩)) H = inCells (H.get i) fun _ cs _ => aggO (takeN (n + 1) (dropN o cs)) := by
  simp only [xLoadN, readN, blkCells, inCells]
  cases H.get i with
  | none => rfl
  | some x => cases x <;> rfl
def putO (H : AHeap) (i : Nat) (ty : TypeId) (st : Bool) (cs : Option (List AVal)) : AOut := match cs with
  | some cs' => .val .undef (H.set i (some (.cells ty cs' st)))
  | none => .stuck
@[simp] theorem putO_some (H : AHeap) (i : Nat) (ty : TypeId) (st : Bool) (cs : List AVal) : putO H i ty st (some cs) = .val .undef (H.set i (some (.cells ty cs st))) := (rfl)
/-- a store of one cell -/
theorem store1_at (i o : Nat) (x : AVal) (hs : x.scalar = true) (hx : x.cells = [x]) : xStore 1 (.ptr (some ⟨.loc i, o⟩)) x H = inCellsO (H.get i) fun ty cs st => putO H i ty st (setCells cs o [x]) := by
  simp only [xStore, hx, allScalar_mk, hs, allScalar_none, Bool.and_self]
  show pvH _ (writeCells H ⟨.loc i, o⟩ [x]) = _
  simp only [writeCells, inCellsO]
  cases H.get i with
  | none => rfl
  | some y => cases y with
    | cells ty cs st => simp only [putO]; cases setCells cs o [x] <;> rfl
    | map es => rfl
/-- a store of more -/
theorem storeN_at (n i o : Nat) (l : List AVal) (hl : l.length = n + 1) (hs : allScalar l = true) : xStore (n + 1) (.ptr (some ⟨.loc i, o⟩)) (.agg l) H = inCellsO (H.get i) fun ty cs st => putO H i ty st (setCells cs o l) := by
  have hb : Nat.beq l.length (n + 1) = true := by rw [beq_dec]; simp [hl]
  simp only [xStore, cells_agg, hb, hs, Bool.and_self, cond_true]
  cases l with
  | nil => simp at hl
  | cons a l =>
    simp only [writeCells, inCellsO]
    cases H.get i with
    | none => rfl
    | some y => cases y with
      | cells ty cs st => simp only [putO]; cases setCells cs o (a :: l) <;> rfl
      | map es => rfl

theorem store1_bool (i o : Nat) (b : Bool) : xStore 1 (.ptr (some ⟨.loc i, o⟩)) (.bool b) H = inCellsO (H.get i) fun ty cs st => putO H i ty st (setCells cs o [(.bool b)]) := store1_at i o _ rfl rfl
theorem store1_int (i o : Nat) (k : IntKind) (n : Int) : xStore 1 (.ptr (some ⟨.loc i, o⟩)) (.int k n) H = inCellsO (H.get i) fun ty cs st => putO H i ty st (setCells cs o [(.int k n)]) := store1_at i o _ rfl rfl
theorem store1_float (i o : Nat) (k : FloatKind) (n : Nat) : xStore 1 (.ptr (some ⟨.loc i, o⟩)) (.float k n) H = inCellsO (H.get i) fun ty cs st => putO H i ty st (setCells cs o [(.float k n)]) := store1_at i o _ rfl rfl
theorem store1_str (i o : Nat) (s : List UInt8) : xStore 1 (.ptr (some ⟨.loc i, o⟩)) (.str s) H = inCellsO (H.get i) fun ty cs st => putO H i ty st (setCells cs o [(.str s)]) := store1_at i o _ rfl rfl
theorem store1_ptr (i o : Nat) (a : Option AAddr) : xStore 1 (.ptr (some ⟨.loc i, o⟩)) (.ptr a) H = inCellsO (H.get i) fun ty cs st => putO H i ty st (setCells cs o [(.ptr a)]) := store1_at i o _ rfl rfl
theorem store1_slice (i o : Nat) (a : Option AAddr) (n : Nat) (c : ACap) : xStore 1 (.ptr (some ⟨.loc i, o⟩)) (.slice a n c) H = inCellsO (H.get i) fun ty cs st => putO H i ty st (setCells cs o [(.slice a n c)]) := store1_at i o _ rfl rfl
theorem store1_map (i o : Nat) (r : Option Nat) : xStore 1 (.ptr (some ⟨.loc i, o⟩)) (.map r) H = inCellsO (H.get i) fun ty cs st => putO H i ty st (setCells cs o [(.map r)]) := store1_at i o _ rfl rfl
theorem store1_func (i o : Nat) (f : Fn) (a b : List AVal) : xStore 1 (.ptr (some ⟨.loc i, o⟩)) (.func f a b) H = inCellsO (H.get i) fun ty cs st => putO H i ty st (setCells cs o [(.func f a b)]) := store1_at i o _ rfl rfl
theorem store1_nilFunc (i o : Nat)  : xStore 1 (.ptr (some ⟨.loc i, o⟩)) .nilFunc H = inCellsO (H.get i) fun ty cs st => putO H i ty st (setCells cs o [.nilFunc]) := store1_at i o _ rfl rfl
theorem store1_iface (i o : Nat) (t : TypeId) (v : AVal) : xStore 1 (.ptr (some ⟨.loc i, o⟩)) (.iface t v) H = inCellsO (H.get i) fun ty cs st => putO H i ty st (setCells cs o [(.iface t v)]) := store1_at i o _ rfl rfl
theorem store1_nilIface (i o : Nat)  : xStore 1 (.ptr (some ⟨.loc i, o⟩)) .nilIface H = inCellsO (H.get i) fun ty cs st => putO H i ty st (setCells cs o [.nilIface]) := store1_at i o _ rfl rfl

theorem take2 {cs : List AVal} {k : Nat} {x y : AVal} (h1 : cs[k]? = some x) (h2 : cs[k+1]? = some y) : takeN 2 (dropN k cs) = some [x, y] := by
  induction cs generalizing k with
  | nil => simp at h1
  | cons c cs ih =>
    cases k with
    | zero =>
      simp at h1 h2; subst h1
      cases cs with
      | nil => simp at h2
      | cons d cs => simp at h2; subst h2; simp
    | succ k => simp at h1 h2; simpa using ih h1 h2

theorem rem_nat (a b : Nat) (hb : 0 < b) (hb2 : b < 9223372036854775808) : binA .rem (.int .i64 (a : Int)) (.int .i64 (b : Int)) = some (.int .i64 ((a % b : Nat) : Int)) := by
  have : iEq (b : Int) (.ofNat 0) = false := by rw [iEq_dec]; simp; omega
  simp only [binA, IntKind.beq, cond_true, intOp, this, cond_false]
  rfl
theorem idxSl (e : Nat) (b : ABlk) (o n : Nat) (c : ACap) (i : Nat) (h : i < n) (k : IntKind) : xIdxSl e (.slice (some ⟨b, o⟩) n c) (.int k (i : Int)) = some (.ptr (some ⟨b, o + i * e⟩)) := by
  have : Nat.blt i n = true := by simpa [Nat.blt_eq] using h
  show (bif Nat.blt i n then _ else _) = _
  rw [this]; rfl


end Am

namespace Am
open Go

variable {W0 : BaseF} {H H' : AHeap} {Tag : Type} {own own' : Nat → Option Tag} {t : Tag}

/-- what was handed out before stays with its owner -/
def Keep (own own' : Nat → Option Tag) (H : AHeap) : Prop := ∀ i, i < H.next → own' i = own i
theorem Keep.refl (own : Nat → Option Tag) (H : AHeap) : Keep own own H := fun _ _ => rfl
theorem Keep.trans {own'' : Nat → Option Tag} (h : Keep own own' H) (hn : H.next ≤ H'.next) (h' : Keep own' own'' H') : Keep own own'' H := fun i hi => (h' i (by omega)).trans (h i hi)

/-- the places of some owners -/
def of (own : Nat → Option Tag) (T : Tag → Prop) : Nat → Prop := fun i => ∃ t, own i = some t ∧ T t
theorem not_of {T : Tag → Prop} {i : Nat} (h : own i = some t) (ht : ¬ T t) : ¬ of own T i := by
  rintro ⟨t', h1, h2⟩
  rw [h] at h1
  simp at h1
  subst h1
  exact ht h2

/-- one place more -/
def give (own : Nat → Option Tag) (i : Nat) (t : Tag) : Nat → Option Tag := fun j => if j = i then some t else own j
theorem give_self (own : Nat → Option Tag) (i : Nat) (t : Tag) : give own i t i = some t := if_pos rfl
theorem give_ne (own : Nat → Option Tag) {i j : Nat} (t : Tag) (h : j ≠ i) : give own i t j = own j := if_neg h
theorem Keep.give (h : Keep own own' H) {i : Nat} (hi : H.next ≤ i) (t : Tag) : Keep own (give own' i t) H := fun j hj => by rw [give_ne _ _ (by omega)]; exact h j hj

theorem own_ne {i j : Nat} {s : Tag} (hi : own i = some s) (hj : own j = some t) (h : s ≠ t) : i ≠ j := by
  intro e; subst e; rw [hi] at hj; simp at hj; exact h hj

/-- nothing -/
abbrev nowhere : Nat → Prop := fun _ => False
theorem Ext.any {S : Nat → Prop} (h : Ext nowhere H H') : Ext S H H' := h.mono fun _ _ q => q.elim
/-- what changes lies behind an earlier heap -/
theorem Ext.behind {S : Nat → Prop} {H0 : AHeap} (h : Ext S H0 H) {S' : Nat → Prop} (h' : Ext S' H H') (hs : ∀ i, S' i → H0.next ≤ i) : Ext S H0 H' :=
  h.trans' h' fun i hi q => by have := hs i q; omega

theorem takeN_all {l : List AVal} {m : Nat} (h : l.length = m) : takeN m l = some l := by
  subst h
  induction l with
  | nil => rfl
  | cons a l ih => simp [ih]

/-- a slice that grows by append: none yet, or of unknown capacity, at a place with P; what it reads as, cell by cell -/
def OpSl (P : Nat → Prop) (H : AHeap) (esz : Nat) (v : AVal) (cells : List AVal) : Prop :=
  (v = .slice none 0 (.ex 0) ∧ cells = []) ∨ ∃ b o n ty cs st, v = .slice (some ⟨.loc b, o⟩) n (.op esz) ∧ P b ∧ Has H b (.cells ty cs st) ∧ takeN (n * esz) (dropN o cs) = some cells

variable {P P' : Nat → Prop}

theorem OpSl.nil (P : Nat → Prop) (H : AHeap) (esz : Nat) : OpSl P H esz (.slice none 0 (.ex 0)) [] := .inl ⟨rfl, rfl⟩

theorem OpSl.ext {S : Nat → Prop} {esz : Nat} {v : AVal} {cells : List AVal} (h : OpSl P H esz v cells) (e : Ext S H H') (hs : ∀ i, P i → ¬ S i) : OpSl P H' esz v cells := by
  rcases h with h | ⟨b, o, n, ty, cs, st, h1, h2, h3, h4⟩
  · exact .inl h
  · exact .inr ⟨b, o, n, ty, cs, st, h1, h2, h3.ext e (hs b h2), h4⟩
theorem OpSl.mono {esz : Nat} {v : AVal} {cells : List AVal} (h : OpSl P H esz v cells) (hp : ∀ i, i < H.next → P i → P' i) : OpSl P' H esz v cells := by
  rcases h with h | ⟨b, o, n, ty, cs, st, h1, h2, h3, h4⟩
  · exact .inl h
  · exact .inr ⟨b, o, n, ty, cs, st, h1, hp b h3.lt h2, h3, h4⟩

theorem OpSl.len {esz : Nat} {v : AVal} {cells : List AVal} (h : OpSl P H esz v cells) : ∃ n, lenOfA v = some n ∧ cells.length = n * esz ∧ xLenSl v = some (.int .i64 n) := by
  rcases h with ⟨rfl, rfl⟩ | ⟨b, o, n, ty, cs, st, rfl, h2, h3, h4⟩
  · exact ⟨0, rfl, by simp, rfl⟩
  · obtain ⟨h5, rfl⟩ := takeN_eq _ _ _ h4
    exact ⟨n, rfl, by simp at h5 ⊢; omega, rfl⟩

theorem append_op {esz bytes k e : Nat} {v x : AVal} {cells new : List AVal} (he : 0 < esz) (h : OpSl P H esz v cells) (hx : lenOfA x = some k) (hsrc : srcCells W0 H esz k x = some new) (hk : k ≠ 0)
    (hsc : allScalar new = true) (hl : new.length = k * esz) (hb : (cells.length + new.length) * bytes ≤ bound46) :
    ∃ v' H', appendA W0 H e esz bytes v x = some (v', H') ∧ OpSl (· = H.next) H' esz v' (cells ++ new) ∧ H'.next = H.next + 1 ∧ Ext P H H' ∧
      (∃ c, v' = .slice (some ⟨.loc H.next, 0⟩) c (.op esz) ∧ c * esz = cells.length + new.length ∧ ∃ st, Has H' H.next (.cells e (cells ++ new) st)) := by
  have hk' : Nat.beq k 0 = false := by rw [Tree.beq_eq]; simp [hk]
  have hl' : Nat.beq new.length (k * esz) = true := by rw [Tree.beq_eq]; simp [hl]
  rcases h with ⟨rfl, rfl⟩ | ⟨b, o, n, ty, cs, st, rfl, h2, h3, h4⟩
  · have hbb : Nat.ble ((0 + k) * bytes) bound46 = true := by
      apply Nat.ble_eq_true_of_le
      simp only [List.length_nil, Nat.zero_add] at hb ⊢
      refine Nat.le_trans ?_ hb
      rw [hl]
      exact Nat.mul_le_mul_right _ (Nat.le_mul_of_pos_right _ he)
    have hz : Nat.ble (0 + k) 0 = false := by
      cases k with
      | zero => exact absurd rfl hk
      | succ k => rw [Bool.eq_false_iff]; intro q; have := Nat.le_of_ble_eq_true q; omega
    have hs0 : srcCells W0 H esz 0 (.slice none 0 (.ex 0)) = some [] := rfl
    refine ⟨.slice (some ⟨.loc H.next, 0⟩) (0 + k) (.op esz), H.new (.cells e ([] ++ new) false), ?_, ?_, rfl, (Ext.refl _ _).new _, 0 + k, rfl, by simp [hl], false, Has.made _ _⟩
    · simp only [appendA, hx, hk', cond_false, hsrc, hsc, hl', hbb, Bool.and_self, cond_true, hz, hs0, growA]
    · refine .inr ⟨H.next, 0, 0 + k, e, [] ++ new, false, rfl, rfl, Has.made _ _, ?_⟩
      rw [dropN_zero]
      exact takeN_all (by simp [hl])
  · obtain ⟨h5, rfl⟩ := takeN_eq _ _ _ h4
    have hlen : ((dropN o cs).take (n * esz)).length = n * esz := by simp; omega
    have hbb : Nat.ble ((n + k) * bytes) bound46 = true := by
      apply Nat.ble_eq_true_of_le
      refine Nat.le_trans (Nat.mul_le_mul_right _ ?_) hb
      rw [hlen, hl, ← Nat.add_mul]
      exact Nat.le_mul_of_pos_right _ he
    refine ⟨.slice (some ⟨.loc H.next, 0⟩) (n + k) (.op esz), (H.set b none).new (.cells e ((dropN o cs).take (n * esz) ++ new) st), ?_, ?_, rfl, ?_, n + k, rfl, ?_, st, Has.made (H.set b none) _⟩
    · have hbe : Nat.beq esz esz = true := by rw [Tree.beq_eq]; simp
      simp only [appendA, hx, hk', cond_false, hsrc, hsc, hl', hbb, Bool.and_self, cond_true, hbe, ontoA, h3.get, h4]
    · refine .inr ⟨H.next, 0, n + k, e, _, st, rfl, rfl, Has.made (H.set b none) _, ?_⟩
      rw [dropN_zero]
      exact takeN_all (by rw [List.length_append, hlen, hl, Nat.add_mul])
    · exact (Ext.set (Ext.refl _ _) none (.inl h2)).new _
    · rw [hlen, hl, Nat.add_mul]

/-- a slice just made, of known elements -/
theorem src_built {esz k b : Nat} {ty : TypeId} {new : List AVal} {st : Bool} {c : ACap} (hb : H.get b = some (.cells ty new st)) (hl : new.length = k * esz) (hk : k * esz ≠ 0) :
    srcCells W0 H esz k (.slice (some ⟨.loc b, 0⟩) k c) = some new := by
  simp only [srcCells]
  generalize k * esz = m at hl hk
  cases m with
  | zero => exact absurd rfl hk
  | succ m =>
    simp only [readN, blkCells, hb, dropN_zero]
    exact takeN_all hl

/-- one element more, by a slice just made -/
theorem append_one {esz bytes e k : Nat} {v : AVal} {cells new : List AVal} (he : 0 < esz) (h : OpSl P H esz v cells) (hx : H.get k = some (.cells e new false)) (hsc : allScalar new = true)
    (hl : new.length = esz) (hb : (cells.length + esz) * bytes ≤ bound46) :
    ∃ v' H', appendA W0 H e esz bytes v (.slice (some ⟨.loc k, 0⟩) 1 (.ex 1)) = some (v', H') ∧ OpSl (· = H.next) H' esz v' (cells ++ new) ∧ H'.next = H.next + 1 ∧ Ext P H H' := by
  obtain ⟨v', H', h1, h2, h3, h4, _⟩ := append_op (W0 := W0) (bytes := bytes) (e := e) (x := .slice (some ⟨.loc k, 0⟩) 1 (.ex 1)) (k := 1) (new := new) he h rfl
    (src_built hx (by omega) (by omega)) (by omega) hsc (by omega) (by rw [hl]; exact hb)
  exact ⟨v', H', h1, h2, h3, h4⟩

/-- a list that is built: each element appended to what is new since a heap -/
theorem append_more {esz bytes e k : Nat} {v : AVal} {cells new : List AVal} {H0 : AHeap} (he : 0 < esz) (h : OpSl (H0.next ≤ ·) H esz v cells) (h0 : Ext nowhere H0 H) (hx : H.get k = some (.cells e new false)) (hsc : allScalar new = true)
    (hl : new.length = esz) (hb : (cells.length + esz) * bytes ≤ bound46) :
    ∃ v' H', appendA W0 H e esz bytes v (.slice (some ⟨.loc k, 0⟩) 1 (.ex 1)) = some (v', H') ∧ OpSl (H0.next ≤ ·) H' esz v' (cells ++ new) ∧ H'.next = H.next + 1 ∧ Ext nowhere H0 H' := by
  obtain ⟨v', H', h1, h2, h3, h4⟩ := append_one (W0 := W0) (bytes := bytes) he h hx hsc hl hb
  exact ⟨v', H', h1, h2.mono fun i _ q => by subst q; exact h0.next, h3, h0.behind h4 fun _ q => q⟩

end Am
