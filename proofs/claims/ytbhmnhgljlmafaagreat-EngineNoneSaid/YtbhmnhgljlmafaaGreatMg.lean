/- The abstract machine: functions without a body. -/
import Derived.Test.YtbhmnhgljlmafaaGreatMf
import Derived.Test.YtbhmnhgljlmafaaGreatProg
import Derived.Laws.Externs
import Derived.Shelf.SlIter.Nil
import Derived.Shelf.SortM.Plain
import Derived.Shelf.SortM.SortNone
import Derived.Ground.GgzProg
import Derived.Ground.SlgmProg
import Derived.Sort.KeysCollected
set_option linter.all false

namespace Am
open Go Go.Proofs

variable {B : Nat} {ι ι' : Iota} {W0 w w' : World} {H H' : AHeap}

theorem Tz.mixed : Tryz.prog.follows .mixedOrders = true := by kernel_rfl

theorem lrel_one {x : AVal} {args' : Array Value} (h : lrel B ι [x] args'.toList) : ∃ v, args' = #[v] ∧ vrel B ι x v := by
  obtain ⟨v, ws, e, r, q⟩ := lrel_cons.1 h
  have : ws = [] := q
  subst this
  exact ⟨v, by apply Array.ext'; rw [e], r⟩

/-- a function without a body that only computes -/
theorem extern_ok {P : Program} {f : FuncId} {args : List AVal} {v : AVal} (hv : ∀ (B : Nat) (ι : Iota) (args' : Array Value) (w : World), lrel B ι args args'.toList → ∃ v', (callFunc f args').run P w = .ok (.value v') w ∧ vrel B ι v v') :
    CallOK P B W0 f args H (.ret v H) := by
  intro ι w args' hw ha
  obtain ⟨v', h1, h2⟩ := hv B ι args' w ha
  exact .inr ⟨v, H, v', w, ι, rfl, h1, Later.refl H ι, hw, h2⟩

def pBits (args : List AVal) (H : AHeap) : CallRes := match args with
  | [.float .f64 b] => .ret (.int .u64 (.ofNat b)) H
  | _ => .stuck
def pFrom (args : List AVal) (H : AHeap) : CallRes := match args with
  | [.int .u64 n] => .ret (.float .f64 n.toNat) H
  | _ => .stuck
def ceilF (x : Nat) : Option Nat := match FloatKind.f64.decode x with
  | .nan _ t => bif Nat.beq (FloatKind.f64.format.quiet t) t then some x else none
  | d => some (FloatKind.f64.encode (d.integral .up))
def pCeil (args : List AVal) (H : AHeap) : CallRes := match args with
  | [.float .f64 b] => match ceilF b with
    | some c => .ret (.float .f64 c) H
    | none => .stuck
  | _ => .stuck

theorem bits_run (b : Nat) (w : World) : (callFunc 156 #[.float .f64 b]).run Tryz.prog w = .ok (.value (.int .u64 b)) w := by
  rw [run_callFunc_extern Tryz.func156 (by kernel_rfl) (by kernel_rfl) (by kernel_rfl) (e := Extern.MathFloatBits.float64bits) (by kernel_rfl)]
  rfl
theorem from_run (n : Int) (w : World) : (callFunc 155 #[.int .u64 n]).run Tryz.prog w = .ok (.value (.float .f64 n.toNat)) w := by
  rw [run_callFunc_extern Tryz.func155 (by kernel_rfl) (by kernel_rfl) (by kernel_rfl) (e := Extern.MathFloatBits.float64frombits) (by kernel_rfl)]
  rfl
theorem ceil_run (b c : Nat) (w : World) (h : ceilF b = some c) : (callFunc 319 #[.float .f64 b]).run Tryz.prog w = .ok (.value (.float .f64 c)) w := by
  rw [run_callFunc_extern Tryz.func319 (by kernel_rfl) (by kernel_rfl) (by kernel_rfl) (e := Extern.MathFloor.toIntegral "math.archCeil" .up) (by kernel_rfl)]
  unfold ceilF at h
  have e : Extern.MathFloor.toIntegral "math.archCeil" .up #[.float .f64 b] = (match FloatKind.f64.decode b with
      | .nan s t =>
        if FloatKind.f64.format.quiet t = t then pure (.float .f64 b) else do
        let kept ← choose (.extern "math.Floor,Ceil,Trunc,RoundToEven.signallingNaN kept" 2)
        pure (.float .f64 (if kept == 1 then b else FloatKind.f64.encode (.nan s (FloatKind.f64.format.quiet t))))
      | d => pure (.float .f64 (FloatKind.f64.encode (d.integral .up)))) := rfl
  rw [e]
  split at h
  · rename_i s t hd
    cases hq : Nat.beq (FloatKind.f64.format.quiet t) t with
    | false => rw [hq] at h; simp at h
    | true =>
      rw [hq] at h
      simp at h
      subst h
      simp [hd, Nat.eq_of_beq_eq_true hq]
  · rename_i hd
    simp at h
    subst h
    cases hdd : FloatKind.f64.decode b with
    | nan s t => exact absurd hdd (hd s t)
    | _ => simp [hdd]

theorem pBits_ok {args : List AVal} (h : pBits args H ≠ .stuck) : CallOK Tryz.prog B W0 156 args H (pBits args H) := by
  unfold pBits at h ⊢
  split at h
  · rename_i b
    refine extern_ok fun B ι args' w ha => ?_
    obtain ⟨v, rfl, r⟩ := lrel_one ha
    simp only [vrel] at r
    subst r
    exact ⟨_, bits_run b w, rfl⟩
  · exact absurd rfl h
theorem pFrom_ok {args : List AVal} (h : pFrom args H ≠ .stuck) : CallOK Tryz.prog B W0 155 args H (pFrom args H) := by
  unfold pFrom at h ⊢
  split at h
  · rename_i b
    refine extern_ok fun B ι args' w ha => ?_
    obtain ⟨v, rfl, r⟩ := lrel_one ha
    simp only [vrel] at r
    subst r
    exact ⟨_, from_run b w, rfl⟩
  · exact absurd rfl h
theorem pCeil_ok {args : List AVal} (h : pCeil args H ≠ .stuck) : CallOK Tryz.prog B W0 319 args H (pCeil args H) := by
  unfold pCeil at h ⊢
  split at h
  · rename_i b
    cases hc : ceilF b with
    | none => rw [hc] at h; exact absurd rfl h
    | some c =>
      refine extern_ok fun B ι args' w ha => ?_
      obtain ⟨v, rfl, r⟩ := lrel_one ha
      simp only [vrel] at r
      subst r
      exact ⟨_, ceil_run b c w hc, rfl⟩
  · exact absurd rfl h

end Am

namespace Go.Proofs
open Go.Shelf
def Tryz.keysA_ren : Go.Shelf.Ren := ⟨fun | 7 => 153 | 10 => 215 | n => n, fun | 23 => 157 | 26 => 9 | 3 => 221 | 28 => 307 | 0 => 0 | 27 => 306 | 33 => 365 | 4 => 4 | n => n, fun | n => n⟩
theorem Tryz.keysA : Go.Proofs.SlLaysZ.n7 Tryz.prog Tryz.keysA_ren := {
  mixed := by kernel_rfl
  f7 := ⟨Tryz.f153.name, by decide, Tryz.func153.trans (congrArg some (by kernel_rfl))⟩
  f10 := ⟨Tryz.f215.name, by decide, Tryz.func215.trans (congrArg some (by kernel_rfl))⟩
  t0 := Tryz.underlying0
  a0 := Tryz.isAgg0
  z0 := Tryz.sizeOf0
  v0 := Tryz.zeroValue0
  t4 := Tryz.underlying4
  a4 := Tryz.isAgg4
  z4 := Tryz.sizeOf4
  v4 := Tryz.zeroValue4
  t23 := Tryz.underlying157
  a23 := Tryz.isAgg157
  z23 := Tryz.sizeOf157
  v23 := Tryz.zeroValue157
  t26 := Tryz.underlying9
  a26 := Tryz.isAgg9
  z26 := Tryz.sizeOf9
  v26 := Tryz.zeroValue9
  t27 := Tryz.underlying306
  a27 := Tryz.isAgg306
  z27 := Tryz.sizeOf306
  v27 := Tryz.zeroValue306
  t28 := Tryz.underlying307
  a28 := Tryz.isAgg307
  z28 := Tryz.sizeOf307
  v28 := Tryz.zeroValue307
  t33 := Tryz.underlying365
  a33 := Tryz.isAgg365
  z33 := Tryz.sizeOf365
  v33 := Tryz.zeroValue365 }
def Tryz.sortedA_ren : Go.Shelf.Ren := ⟨fun | 6 => 152 | 8 => 213 | 9 => 214 | 11 => 280 | 13 => 282 | 12 => 281 | 23 => 355 | 24 => 356 | 14 => 346 | 15 => 347 | 16 => 348 | 17 => 349 | 18 => 350 | 19 => 351 | 20 => 352 | 21 => 353 | 22 => 354 | 25 => 402 | 26 => 403 | 27 => 404 | 28 => 405 | 29 => 406 | 30 => 407 | 31 => 436 | n => n, fun | 26 => 9 | 28 => 307 | 24 => 217 | 0 => 0 | 3 => 3 | 37 => 413 | 48 => 119 | 50 => 253 | 4 => 4 | 40 => 460 | 39 => 459 | 45 => 428 | 5 => 5 | 9 => 9 | 51 => 507 | 55 => 511 | 57 => 543 | 58 => 544 | 33 => 365 | n => n, fun | n => n⟩
theorem Tryz.sortedA : Go.Proofs.SlLaysZ.n6 Tryz.prog Tryz.sortedA_ren := {
  mixed := by kernel_rfl
  f6 := ⟨Tryz.f152.name, by decide, Tryz.func152.trans (congrArg some (by kernel_rfl))⟩
  f8 := ⟨Tryz.f213.name, by decide, Tryz.func213.trans (congrArg some (by kernel_rfl))⟩
  f11 := ⟨Tryz.f280.name, by decide, Tryz.func280.trans (congrArg some (by kernel_rfl))⟩
  t0 := Tryz.underlying0
  a0 := Tryz.isAgg0
  z0 := Tryz.sizeOf0
  v0 := Tryz.zeroValue0
  t24 := Tryz.underlying217
  a24 := Tryz.isAgg217
  z24 := Tryz.sizeOf217
  v24 := Tryz.zeroValue217
  t26 := Tryz.underlying9
  a26 := Tryz.isAgg9
  z26 := Tryz.sizeOf9
  v26 := Tryz.zeroValue9
  t28 := Tryz.underlying307
  a28 := Tryz.isAgg307
  z28 := Tryz.sizeOf307
  v28 := Tryz.zeroValue307
  i26 := by kernel_rfl }
def Tryz.sortA_ren : Go.Shelf.Ren := ⟨fun | 6 => 214 | 8 => 282 | 9 => 281 | 19 => 355 | 20 => 356 | 21 => 346 | 22 => 347 | 23 => 348 | 24 => 349 | 25 => 350 | 26 => 351 | 27 => 352 | 28 => 353 | 29 => 354 | 36 => 402 | 31 => 403 | 32 => 404 | 37 => 405 | 38 => 406 | 39 => 407 | 41 => 436 | n => n, fun | 27 => 217 | 29 => 9 | 3 => 3 | 32 => 413 | 26 => 217 | 0 => 0 | 44 => 119 | 46 => 253 | 4 => 4 | 36 => 460 | 35 => 459 | 41 => 428 | 5 => 5 | 9 => 9 | 53 => 507 | 57 => 511 | 63 => 543 | 64 => 544 | n => n, fun | n => n⟩
theorem Tryz.sortA : Go.Proofs.SlLaysM.n6 Tryz.prog Tryz.sortA_ren := {
  mixed := by kernel_rfl
  f6 := ⟨Tryz.f214.name, by decide, Tryz.func214.trans (congrArg some (by kernel_rfl))⟩
  f8 := Tryz.func282.trans (congrArg some (by kernel_rfl))
  f9 := ⟨Tryz.f281.name, by decide, Tryz.func281.trans (congrArg some (by kernel_rfl))⟩
  f19 := Tryz.func355.trans (congrArg some (by kernel_rfl))
  f20 := Tryz.func356.trans (congrArg some (by kernel_rfl))
  f21 := ⟨Tryz.f346.name, by decide, Tryz.func346.trans (congrArg some (by kernel_rfl))⟩
  f22 := ⟨Tryz.f347.name, by decide, Tryz.func347.trans (congrArg some (by kernel_rfl))⟩
  f23 := ⟨Tryz.f348.name, by decide, Tryz.func348.trans (congrArg some (by kernel_rfl))⟩
  f24 := ⟨Tryz.f349.name, by decide, Tryz.func349.trans (congrArg some (by kernel_rfl))⟩
  f25 := ⟨Tryz.f350.name, by decide, Tryz.func350.trans (congrArg some (by kernel_rfl))⟩
  f26 := ⟨Tryz.f351.name, by decide, Tryz.func351.trans (congrArg some (by kernel_rfl))⟩
  f27 := ⟨Tryz.f352.name, by decide, Tryz.func352.trans (congrArg some (by kernel_rfl))⟩
  f28 := ⟨Tryz.f353.name, by decide, Tryz.func353.trans (congrArg some (by kernel_rfl))⟩
  f29 := ⟨Tryz.f354.name, by decide, Tryz.func354.trans (congrArg some (by kernel_rfl))⟩
  f31 := Tryz.func403.trans (congrArg some (by kernel_rfl))
  f32 := Tryz.func404.trans (congrArg some (by kernel_rfl))
  f36 := ⟨Tryz.f402.name, by decide, Tryz.func402.trans (congrArg some (by kernel_rfl))⟩
  f37 := ⟨Tryz.f405.name, by decide, Tryz.func405.trans (congrArg some (by kernel_rfl))⟩
  f38 := ⟨Tryz.f406.name, by decide, Tryz.func406.trans (congrArg some (by kernel_rfl))⟩
  f39 := ⟨Tryz.f407.name, by decide, Tryz.func407.trans (congrArg some (by kernel_rfl))⟩
  f41 := ⟨Tryz.f436.name, by decide, Tryz.func436.trans (congrArg some (by kernel_rfl))⟩
  t0 := Tryz.underlying0
  a0 := Tryz.isAgg0
  z0 := Tryz.sizeOf0
  v0 := Tryz.zeroValue0
  t3 := Tryz.underlying3
  a3 := Tryz.isAgg3
  z3 := Tryz.sizeOf3
  v3 := Tryz.zeroValue3
  t4 := Tryz.underlying4
  a4 := Tryz.isAgg4
  z4 := Tryz.sizeOf4
  v4 := Tryz.zeroValue4
  t5 := Tryz.underlying5
  a5 := Tryz.isAgg5
  z5 := Tryz.sizeOf5
  v5 := Tryz.zeroValue5
  t9 := Tryz.underlying9
  a9 := Tryz.isAgg9
  z9 := Tryz.sizeOf9
  v9 := Tryz.zeroValue9
  t26 := Tryz.underlying217
  a26 := Tryz.isAgg217
  z26 := Tryz.sizeOf217
  v26 := Tryz.zeroValue217
  t27 := Tryz.underlying217
  a27 := Tryz.isAgg217
  z27 := Tryz.sizeOf217
  v27 := Tryz.zeroValue217
  t29 := Tryz.underlying9
  a29 := Tryz.isAgg9
  z29 := Tryz.sizeOf9
  v29 := Tryz.zeroValue9
  t32 := Tryz.underlying413
  a32 := Tryz.isAgg413
  z32 := Tryz.sizeOf413
  v32 := Tryz.zeroValue413
  t35 := Tryz.underlying459
  a35 := Tryz.isAgg459
  z35 := Tryz.sizeOf459
  v35 := Tryz.zeroValue459
  t36 := Tryz.underlying460
  a36 := Tryz.isAgg460
  z36 := Tryz.sizeOf460
  v36 := Tryz.zeroValue460
  t41 := Tryz.underlying428
  a41 := Tryz.isAgg428
  z41 := Tryz.sizeOf428
  v41 := Tryz.zeroValue428
  t44 := Tryz.underlying119
  a44 := Tryz.isAgg119
  z44 := Tryz.sizeOf119
  v44 := Tryz.zeroValue119
  t46 := Tryz.underlying253
  a46 := Tryz.isAgg253
  z46 := Tryz.sizeOf253
  v46 := Tryz.zeroValue253
  t53 := Tryz.underlying507
  a53 := Tryz.isAgg507
  z53 := Tryz.sizeOf507
  v53 := Tryz.zeroValue507
  t57 := Tryz.underlying511
  a57 := Tryz.isAgg511
  z57 := Tryz.sizeOf511
  v57 := Tryz.zeroValue511
  t63 := Tryz.underlying543
  a63 := Tryz.isAgg543
  z63 := Tryz.sizeOf543
  v63 := Tryz.zeroValue543
  t64 := Tryz.underlying544
  a64 := Tryz.isAgg544
  z64 := Tryz.sizeOf544
  v64 := Tryz.zeroValue544 }
end Go.Proofs

namespace Go.Proofs
open Go.RowKit Go.Maps Go.Sort Go.Shelf


theorem Tryz.sortsA (m : Nat) : AnyZ.SortsIn Tryz.prog Tryz.sortedA_ren Fence.wide m :=
  ⟨fun blk off cap ss W hH hblk hsz => callsIn_wide.2 (AnyM.slices_Sort_string Tryz.sortA blk off cap ss W hH hblk hsz),
   fun p cap W => callsIn_wide.2 (AnyM.slices_Sort_string_none Tryz.sortA p cap W)⟩

set_option maxHeartbeats 1000000 in
theorem Tryz.names {H : Type} (b nn : Nat) (D0 : DataW H) (R : Value → Option (DataW H × List MemPlace)) (w : World) (hown : w.ownsMap Tryz.prog 9 R b nn D0) (hmax : Maps.size D0 ≤ maxLen) (hbytes : Maps.size D0 * 16 ≤ 140737488355328) :
    Calls Tryz.prog 110 #[.map (some b)] w fun e w' => ∃ (v : Value) (ss : List (List UInt8)), e = .returned v ∧ ss.Perm (strKeys D0) ∧
      w'.ownsRow w.heap.size 9 1 v ss.length ((ss.mergeSort (fun x y => decide (x ≤ y))).map encStr) ∧ (v = .slice none 0 0 ↔ ss = []) ∧ Below w.heap.size w w' := by
  refine (callsIn_wide (n := 6)).1 ?_
  have hbl := hown.lt
  have hseq : SeqGives Fence.wide 2 Tryz.prog 215 #[.pointer (some ⟨w.heap.size, 0, none⟩)] encStr (fun ss => ss.Perm (strKeys D0)) (Maps.size D0) (w.alloc (.cells #[.map (some b)] 157)) :=
    AnyZ.keys_gives (ρ := Tryz.keysA_ren) { Tryz.keysA with } Fence.wide _ trivial rfl (by omega) w.heap.size b nn D0 _ (by simp) (by simp) (by
      obtain ⟨es, clock, hb, Ft, hs, hD⟩ := hown
      exact ⟨es, clock, (Below.heap_alloc _ _ b hbl).trans hb, Ft, hs, hD⟩)
  have cK : ∀ mb W, CallsIn Fence.wide 5 Tryz.prog 153 #[.map mb] W fun e w' => e = .returned (.func (.func 215) #[] #[.pointer (some ⟨W.heap.size, 0, none⟩)]) ∧ w' = W.alloc (.cells #[.map mb] 157) := fun mb W => AnyZ.keys_in Tryz.keysA Fence.wide 5 trivial rfl mb W
  have cS := AnyZ.sorted_in Tryz.sortedA Fence.wide 5 trivial trivial trivial trivial rfl (by omega) (Tryz.sortsA _) (enters_of Tryz.func214 (by kernel_rfl) rfl) 215 #[.pointer (some ⟨w.heap.size, 0, none⟩)] trivial (enters_of Tryz.func215 (by kernel_rfl) rfl) _ _ hmax hbytes _ hseq
  change CallsIn _ _ Tryz.prog 152 _ _ _ at cS
  have hfK : Fence.wide.fn 153 := trivial
  have hfS : Fence.wide.fn 152 := trivial
  refine callsIn_of_wp Tryz.func110 rfl trivial ?_ rfl
  simp only [Tryz.ntmps110, List.size_toArray, List.length_cons, List.length_nil, Nat.reduceAdd, Nat.reduceSub, Array.replicate_succ, Array.replicate_zero, List.push_toArray, List.append_toArray, List.nil_append, List.cons_append]
  gi_wp2_with (first
    | (gi_at_call 153; refine (cK _ _).mono ?_; rintro e w' ⟨rfl, rfl⟩)
    | (gi_at_call 152; refine cS.mono ?_; rintro e w' ⟨v, ss, rfl, hS, hrow, hnil, hb⟩))
  go_ret
  exact ⟨v, ss, rfl, hS, ownsRow_base_a hrow (by simp), hnil, ((Below.refl _ w).alloc (Nat.le_refl _) _).trans (hb.mono (by simp))⟩

end Go.Proofs

namespace Am
open Go Go.Proofs Go.RowKit Go.Maps

theorem bytesLt_lt : ∀ (x y : List UInt8), bytesLt x y = true ↔ x < y
  | [], [] => by simp [bytesLt]
  | [], _ :: _ => by simp [bytesLt]
  | _ :: _, [] => by simp [bytesLt]
  | a :: x, b :: y => by
    rw [List.cons_lt_cons_iff, ← bytesLt_lt x y]
    simp only [bytesLt, Bool.or_eq_true, Bool.and_eq_true, Tree.beq_eq, decide_eq_true_eq]
    have h1 : (Nat.blt a.toNat b.toNat = true) ↔ a < b := by
      rw [UInt8.lt_iff_toNat_lt]
      constructor
      · intro h; exact Nat.le_of_ble_eq_true h
      · intro h; exact Nat.ble_eq_true_of_le h
    rw [h1, UInt8.toNat_inj]

def insA (x : List UInt8) : List (List UInt8) → List (List UInt8)
  | [] => [x]
  | y :: ys => bif bytesLt x y then x :: y :: ys else y :: insA x ys
def sortA : List (List UInt8) → List (List UInt8)
  | [] => []
  | x :: xs => insA x (sortA xs)

theorem insA_perm (x : List UInt8) : ∀ l, (insA x l).Perm (x :: l)
  | [] => .refl _
  | y :: ys => by
    simp only [insA]
    cases bytesLt x y with
    | true => exact .refl _
    | false => exact ((insA_perm x ys).cons y).trans (.swap x y ys)
theorem sortA_perm : ∀ l, (sortA l).Perm l
  | [] => .refl _
  | x :: xs => (insA_perm x _).trans ((sortA_perm xs).cons x)

theorem insA_sorted (x : List UInt8) : ∀ l : List (List UInt8), l.Pairwise (fun a b => a ≤ b) → (insA x l).Pairwise fun a b => a ≤ b
  | [], _ => by simp [insA]
  | y :: ys, h => by
    have h' := List.pairwise_cons.1 h
    simp only [insA]
    cases hb : bytesLt x y with
    | true =>
      have hxy : x ≤ y := List.le_of_lt ((bytesLt_lt x y).1 hb)
      refine List.pairwise_cons.2 ⟨fun z hz => ?_, h⟩
      rcases List.mem_cons.1 hz with rfl | hz
      · exact hxy
      · exact List.le_trans hxy (h'.1 z hz)
    | false =>
      have hyx : y ≤ x := by
        rw [← List.not_lt]
        intro q
        rw [(bytesLt_lt x y).2 q] at hb
        simp at hb
      refine List.pairwise_cons.2 ⟨fun z hz => ?_, insA_sorted x ys h'.2⟩
      rcases List.mem_cons.1 ((insA_perm x ys).mem_iff.1 hz) with rfl | hz
      · exact hyx
      · exact h'.1 z hz
theorem sortA_sorted : ∀ l, (sortA l).Pairwise fun a b => a ≤ b
  | [] => .nil
  | x :: xs => insA_sorted x _ (sortA_sorted xs)

theorem sortA_merge {l l' : List (List UInt8)} (h : l.Perm l') : l.mergeSort leB = sortA l' := by
  rw [mergeSort_of_perm (h.trans (sortA_perm l').symm)]
  exact List.mergeSort_of_pairwise ((sortA_sorted l').imp fun h => by simpa [leB] using h)

end Am

namespace Am
open Go Go.Proofs Go.RowKit Go.Maps Go.Shelf Go.WideShapes Go.MapKept Go.ChangeMaps
open Go.WideElems (rd rg)

variable {B : Nat} {ι ι' : Iota} {W0 w w' : World} {H H' : AHeap}

theorem WRel.ext (h : WRel B W0 H ι w) (hs : w.heap.size ≤ w'.heap.size) (hg : ∀ b, b < w.heap.size → w'.heap[b]? = w.heap[b]?) (s : SameIO w w') : WRel B W0 H ι w' := by
  refine ⟨Nat.le_trans h.size hs, fun b hb => ?_, fun i L e => ?_, h.inj, fun i L o e ho => ?_, h.io' s⟩
  · rw [hg b (by have := h.size; omega)]; exact h.base b hb
  · have := h.dom i L e; omega
  · rw [hg _ (h.dom i L e).2.2]; exact h.obj i L o e ho

theorem WRel.placeAt (h : WRel B W0 H ι w) {i : Nat} {L : Loc} (hi : i < H.next) (hn : ι i = none) (hf : ∀ j L', ι j = some L' → L'.blk ≠ L.blk) (hB : B ≤ L.blk) (hL : L.blk < w.heap.size)
    (ho : ∀ x, H.get i = some x → orel B (ι.put i L) L x w.heap[L.blk]?) : WRel B W0 H (ι.put i L) w := by
  refine ⟨h.size, h.base, fun j L' e => ?_, fun j k Lj Lk ej ek hj hk hb => ?_, fun j L' x e hx => ?_, h.io⟩
  · unfold Iota.put at e
    by_cases hj : j = i
    · rw [if_pos hj] at e; simp at e; subst e; subst hj; exact ⟨hi, hB, hL⟩
    · rw [if_neg hj] at e; exact h.dom j L' e
  · unfold Iota.put at ej ek
    by_cases h1 : j = i
    · by_cases h2 : k = i
      · rw [h1, h2]
      · rw [if_pos h1] at ej; rw [if_neg h2] at ek
        simp at ej; subst ej
        exact absurd hb.symm (hf k Lk ek)
    · by_cases h2 : k = i
      · rw [if_neg h1] at ej; rw [if_pos h2] at ek
        simp at ek; subst ek
        exact absurd hb (hf j Lj ej)
      · rw [if_neg h1] at ej; rw [if_neg h2] at ek
        exact h.inj j k Lj Lk ej ek hj hk hb
  · by_cases hj : j = i
    · subst hj
      unfold Iota.put at e
      rw [if_pos rfl] at e; simp at e; subst e
      exact ho x hx
    · unfold Iota.put at e
      rw [if_neg hj] at e
      exact orel_mono (Iota.put_le hn) (h.obj j L' x e hx)

def isStrKey (e : AVal × AVal) : Bool := match e.1 with
  | .str s => Nat.ble s.length 4096
  | _ => false
def strKey (e : AVal × AVal) : List UInt8 := match e.1 with
  | .str s => s
  | _ => []
def namesOut (H : AHeap) : List (List UInt8) → CallRes
  | [] => .ret (.slice none 0 (.ex 0)) H
  | l => .ret (.slice (some ⟨.loc H.next, 0⟩) l.length (.op 1)) (H.new (.cells 9 (l.map AVal.str) false))
def pNames (args : List AVal) (H : AHeap) : CallRes := match args with
  | [.map (some i)] => match H.get i with
    | some (.map es) => bif es.all isStrKey && Nat.ble es.length 4096 then namesOut H (sortA (es.map strKey)) else .stuck
    | _ => .stuck
  | _ => .stuck

theorem erel_keys : ∀ {es : List (AVal × AVal)} {l : List MapEntry}, erel B ι es l → (∀ e ∈ es, isStrKey e = true) → l.map (·.key) = (es.map strKey).map encStr
  | [], l, h, _ => by have h : _ = _ := h; subst h; rfl
  | (k, v) :: es, l, h, hs => by
    obtain ⟨e, r, rfl, h1, h2, h3⟩ := h
    have := hs (k, v) (by simp)
    cases k <;> simp [isStrKey] at this
    simp only [vrel] at h1
    simp only [List.map_cons, erel_keys h3 fun e he => hs e (List.mem_cons_of_mem _ he), h1, strKey]

theorem keys_nodup {es : List (AVal × AVal)} (h : keysOK es) (hs : ∀ e ∈ es, isStrKey e = true) : (es.map strKey).Nodup := by
  rw [List.Nodup, List.pairwise_map]
  refine List.Pairwise.imp_of_mem ?_ h.2
  intro a b ha hb hab
  have h1 := hs a ha
  have h2 := hs b hb
  obtain ⟨a1, a2⟩ := a
  obtain ⟨b1, b2⟩ := b
  cases a1 <;> simp [isStrKey] at h1
  cases b1 <;> simp [isStrKey] at h2
  simp only [keyEq, Option.some.injEq, bytesEq_iff, decide_eq_false_iff_not] at hab
  exact hab

theorem pNames_ok {args : List AVal} (h : pNames args H ≠ .stuck) : CallOK Tryz.prog B W0 110 args H (pNames args H) := by
  unfold pNames at h ⊢
  split at h
  case h_2 => exact absurd rfl h
  rename_i i
  split at h
  case h_2 => exact absurd rfl h
  rename_i es hg
  cases hc : (es.all isStrKey && Nat.ble es.length 4096) with
  | false => rw [hc] at h; exact absurd rfl h
  | true =>
    simp only [hg, hc, cond_true]
    simp only [Bool.and_eq_true, List.all_eq_true] at hc
    obtain ⟨hs, hlen⟩ := hc
    have hlen : es.length ≤ 4096 := Nat.le_of_ble_eq_true hlen
    intro ι w args' hw ha
    obtain ⟨v0, rfl, hv0⟩ := lrel_one ha
    obtain ⟨L, eL, rfl⟩ := hv0
    obtain ⟨ents, clock, es', h1, h2, h3, h4, h5⟩ := map_obj2 hw eL hg
    refine .inl ⟨enters_of Tryz.func110 (by kernel_rfl) rfl _ w, ?_⟩
    have hs' : ∀ e ∈ es', isStrKey e = true := fun e he => hs e (h2.mem_iff.1 he)
    have hkeys := erel_keys h3 hs'
    have hksize : (ents.toList.map (·.key)).length = es.length := by rw [hkeys]; simp [h2.length_eq]
    have hsz : ents.size = es.length := by simpa using hksize
    have hnod : (es'.map strKey).Nodup := ((h2.map strKey).nodup_iff).2 (keys_nodup h4 hs)
    have hbig : (4096 : Nat) ≤ maxLen := by decide
    let R : Value → Option (DataW Unit × List MemPlace) := fun _ => some (.nil, [])
    have hrd : ∀ x ∈ ents.toList, ∃ s : List UInt8, s ∈ es'.map strKey ∧ x.key = encStr s ∧ rd Tryz.prog 9 R x = some (.string s, .nil) := by
      intro x hx
      have hm : x.key ∈ (es'.map strKey).map encStr := by rw [← hkeys]; exact List.mem_map_of_mem hx
      obtain ⟨s, hsm, hse⟩ := List.mem_map.1 hm
      obtain ⟨e, he, hes⟩ := List.mem_map.1 hsm
      have hl : s.length ≤ 4096 := by
        have := hs' e he
        obtain ⟨e1, e2⟩ := e
        cases e1 <;> simp [isStrKey] at this
        simp only [strKey] at hes
        rw [← hes]; exact this
      refine ⟨s, hsm, hse.symm, ?_⟩
      simp [WideElems.rd, ← hse, keyOf, Tryz.underlying9, mapKey, encStr, R]
      rw [if_pos (by show s.toArray.size ≤ maxLen; rw [List.size_toArray]; omega)]
      rfl
    have hown : w.ownsMap Tryz.prog 9 R L.blk ents.size (.map ((ents.toList.map (rg Tryz.prog 9 R)).foldr DataW.insert [])) := by
      refine ⟨ents, clock, h1, ⟨by omega, ⟨fun x hx => h5.1 _ (List.mem_map_of_mem hx), h5.2, ?_⟩, fun x hx => ?_⟩, Nat.le_refl _, rfl⟩
      · rw [hkeys, List.Nodup, List.pairwise_map]
        exact hnod.imp fun hne e => hne (encStr_inj e)
      · obtain ⟨s, _, _, e⟩ := hrd x hx; exact ⟨_, e⟩
    have hsize : size (DataW.map ((ents.toList.map (rg Tryz.prog 9 R)).foldr DataW.insert [])) = es.length := by
      simp [size, length_sorted, hsz]
    have hperm : (strKeys (DataW.map ((ents.toList.map (rg Tryz.prog 9 R)).foldr DataW.insert []))).Perm (es.map strKey) := by
      have e1 : (ents.toList.map (rg Tryz.prog 9 R)).map (fun p => strOf p.1) = es'.map strKey := by
        have : ((ents.toList.map (rg Tryz.prog 9 R)).map (fun p => strOf p.1)).map encStr = ents.toList.map (·.key) := by
          simp only [List.map_map]
          refine List.map_congr_left fun x hx => ?_
          obtain ⟨s, _, e, e'⟩ := hrd x hx
          simp [WideElems.rg, e', strOf, e]
        rw [hkeys] at this
        exact List.map_inj_right (fun _ _ => encStr_inj) |>.1 this
      have := (sorted_perm (ents.toList.map (rg Tryz.prog 9 R))).map (fun p => strOf p.1)
      rw [e1] at this
      exact this.trans (h2.map strKey)
    refine (Tryz.names L.blk ents.size _ R w hown (by omega) (by omega)).mono fun e w' he => ?_
    obtain ⟨v, ss, rfl, hss, hrow, hnil, hbel⟩ := he
    have hmerge : ss.mergeSort leB = sortA (es.map strKey) := sortA_merge (hss.trans hperm)
    have hlss : ss.length = (sortA (es.map strKey)).length := by rw [← hmerge]; simp
    have hw' : WRel B W0 H ι w' := hw.ext hbel.size hbel.block ⟨hbel.os, hbel.output⟩
    cases hl : sortA (es.map strKey) with
    | nil =>
      have hss0 : ss = [] := by rw [hl] at hlss; exact List.length_eq_zero_iff.1 hlss
      have hv : v = .slice none 0 0 := hnil.2 hss0
      subst hv
      exact ⟨ι, Later.refl H ι, hw', ⟨none, 0, 0, rfl, rfl, rfl, rfl, rfl, rfl⟩⟩
    | cons k ks =>
      rw [← hl]
      have hne : ss ≠ [] := fun q => by rw [hl, q] at hlss; simp at hlss
      have hout : namesOut H (sortA (es.map strKey)) = .ret (.slice (some ⟨.loc H.next, 0⟩) (sortA (es.map strKey)).length (.op 1)) (H.new (.cells 9 ((sortA (es.map strKey)).map AVal.str) false)) := by rw [hl]; rfl
      rw [hout]
      obtain ⟨hxl, q | ⟨g, cap, cur, rfl, hg1, hg2, hg3, hg4, hg5, hg6⟩⟩ := hrow
      · exact absurd (hnil.1 q.1) hne
      · change ss.mergeSort leB |>.map encStr |> fun l => cur.toList.take _ = l at hg6
        have hn : ι H.next = none := hw.none_next (Nat.le_refl _)
        have hgl : g < w'.heap.size := (Array.getElem?_eq_some_iff.1 hg2).1
        rw [hmerge] at hg6
        have hLe : ι.le (ι.put H.next ⟨g, 0, cap⟩) := Iota.put_le hn
        refine ⟨ι.put H.next ⟨g, 0, cap⟩, ⟨hLe, fun j hj hj' => by unfold Iota.put; rw [if_neg (by omega)]; exact hj', by simp [CallRes.heap], fun j hj _ => by simp only [CallRes.heap]; rw [AHeap.get_new, if_neg (by omega)]⟩, ?_, ?_⟩
        · simp only [CallRes.heap]
          refine (hw'.grow _).placeAt (by simp) hn (fun j L' e q => ?_) (by have := hw.size; show B ≤ g; omega) hgl fun x hx => ?_
          · have := (hw.dom j L' e).2.2
            simp only at q; omega
          · rw [AHeap.get_new, if_pos rfl] at hx
            simp at hx; subst hx
            refine ⟨cur, 9, (0, 0), hg2, by simp [hg5], by simp; omega, fun j u hu => ?_, .inl rfl⟩
            rw [nthN_eq] at hu
            simp only [List.getElem?_map, Option.map_eq_some_iff] at hu
            obtain ⟨s, hsj, rfl⟩ := hu
            refine ⟨encStr s, ?_, rfl⟩
            have hj : (cur.toList.take (ss.length * 1))[j]? = some (encStr s) := by rw [hg6]; simp [hsj]
            rw [List.getElem?_take] at hj
            split at hj
            · simpa using hj
            · exact absurd hj (by simp)
        · exact ⟨_, _, _, rfl, ⟨g, 0, cap⟩, 0, by unfold Iota.put; rw [if_pos rfl], rfl, hlss, by omega, fun _ => rfl, .inr (by simp)⟩

end Am

namespace Am
open Go Go.Proofs

theorem Tz.names : (Tryz.prog.funcs.toList.all fun g => !(g.name == "runtime.NumGoroutine")) = true := by kernel_rfl

noncomputable def Tz.F : FnsF := fun f => cFn Tryz.prog f

theorem Tz.fnsOK : FnsOK Tryz.prog Tz.F := by
  intro f fn h
  refine ⟨h, fun g hg => ?_⟩
  have hm : g ∈ Tryz.prog.funcs.toList := List.mem_of_getElem? (i := f) (by simpa using hg)
  have := List.all_eq_true.1 Tz.names g hm
  simpa using this

end Am
