/- no engine: what each method of none, or of a zero one, answers -/
import Derived.Test.YtbhmnhgljlmafaaGreatNoneG
import Derived.Test.YtbhmnhgljlmafaaGreatMl
import Derived.KernelRfl
set_option linter.all false

namespace Am
open Go

variable {W0 : BaseF} {H H' : AHeap}

/-- no engine: nil, or one without a log -/
def NoEng (H : AHeap) (v : AVal) : Prop := v = .ptr none ∨ ∃ i ty cs st, v = .ptr (some ⟨.loc i, 0⟩) ∧ Has H i (.cells ty cs st) ∧ nthN 8 cs = some (.ptr none)

theorem NoEng.ext {v : AVal} (h : NoEng H v) (e : Ext nowhere H H') : NoEng H' v := by
  rcases h with h | ⟨i, ty, cs, st, h1, h2, h3⟩
  · exact .inl h
  · exact .inr ⟨i, ty, cs, st, h1, h2.ext e id, h3⟩

@[simp] theorem eqPtr_nil (H : AHeap) : eqPtr H (.ptr none) (.ptr none) = some true := (rfl)
@[simp] theorem eqPtr_some_nil (H : AHeap) (a : AAddr) : eqPtr H (.ptr (some a)) (.ptr none) = some false := (rfl)

theorem there_g {cf : CallF} {n : Nat} {v : AVal} (h : NoEng H v) : g60_engine_Engine_there W0 cf n v H = .ret (.bool false) H := by
  rcases h with rfl | ⟨i, ty, cs, st, rfl, h2, h3⟩
  · simp [g60_engine_Engine_there]
  · simp [g60_engine_Engine_there, load1 h2.get, h3]
theorem there_no (n : Nat) {v : AVal} (h : NoEng H v) : acall Tz.F W0 Tz.prim2 (n + 1) 60 [v] H = .ret (.bool false) H := (g60_engine_Engine_there_ok W0 n v H).ret (there_g h)

theorem call_no (n : Nat) {v id : AVal} (h : NoEng H v) : acall Tz.F W0 Tz.prim2 (n + 2) 63 [v, id] H = .ret (.ptr none) H := by
  refine (g63_engine_Engine_call_ok W0 (n + 1) v id H).ret ?_
  simp [g63_engine_Engine_call, there_no n h, g63_engine_Engine_call_j1]

theorem begin_no (n : Nat) {v : AVal} {cs : List AVal} (h : NoEng H v) (hc : allScalar cs = true) :
    ∃ H', acall Tz.F W0 Tz.prim2 (n + 2) 19 [v, .agg cs] H = .ret (.tuple [.int .i64 0, .int .i64 1]) H' ∧ Ext nowhere H H' := by
  have hx : Ext nowhere H (H.new (.cells 43 cs false)) := (Ext.refl _ _).new _
  refine ⟨_, (g19_engine_Engine_Begin_ok W0 (n + 1) v _ H).ret ?_, hx⟩
  simp [g19_engine_Engine_Begin, xNew, hc, there_no n (h.ext hx)]

theorem result_no (n : Nat) {v id : AVal} (h : NoEng H v) :
    ∃ H', acall Tz.F W0 Tz.prim2 (n + 3) 23 [v, id] H = .ret (.tuple [.agg [.int .i64 0, .int .i64 0, .slice none 0 (.ex 0)], .bool false]) H' ∧ Ext nowhere H H' := by
  have hx : Ext nowhere H (H.new (.cells 51 [.int .i64 0, .int .i64 0, .slice none 0 (.ex 0)] false)) := (Ext.refl _ _).new _
  refine ⟨_, (g23_engine_Engine_Result_ok W0 (n + 2) v id H).ret ?_, hx.set (some (.cells 51 [.int .i64 0, .int .i64 0, .slice none 0 (.ex 0)] false)) (.inr (Nat.le_refl _))⟩
  simp [g23_engine_Engine_Result, xNew, call_no n (h.ext hx), g23_engine_Engine_Result_j1, fillA, storeN_at 2, AHeap.get_new, loadN_at 2, AHeap.get_set, resL, resC]

theorem ready_no (n : Nat) {v : AVal} (h : NoEng H v) : acall Tz.F W0 Tz.prim2 (n + 2) 20 [v] H = .ret (.slice none 0 (.ex 0)) H := by
  refine (g20_engine_Engine_Ready_ok W0 (n + 1) v H).ret ?_
  simp [g20_engine_Engine_Ready, there_no n h]

theorem step_no (n : Nat) {v id : AVal} (h : NoEng H v) : ∃ H', acall Tz.F W0 Tz.prim2 (n + 3) 21 [v, id] H = .ret (.int .i64 6) H' ∧ Ext nowhere H H' := by
  have hs : v.scalar = true ∧ v.cells = [v] := by rcases h with rfl | ⟨i, ty, cs, st, rfl, _, _⟩ <;> exact ⟨rfl, rfl⟩
  have hx : Ext nowhere H (H.new (.cells 32 [v] false)) := (Ext.refl _ _).new _
  have hx2 : Ext nowhere H ((H.new (.cells 32 [v] false)).new (.cells 68 [.ptr none] false)) := hx.new _
  refine ⟨_, (g21_engine_Engine_Step_ok W0 (n + 2) v id H).ret ?_, hx2.set (i := H.next + 1) (some (.cells 68 [.ptr none] false)) (.inr (by omega))⟩
  simp [g21_engine_Engine_Step, xNew, hs.1, hs.2, load1_at, AHeap.get_new, call_no n (h.ext hx), store1_ptr, AHeap.get_set]

theorem ticks_no (n : Nat) {v : AVal} (h : NoEng H v) : acall Tz.F W0 Tz.prim2 (n + 2) 70 [v] H = .ret (.bool false) H := by
  refine (g70_engine_Engine_ticks_ok W0 (n + 1) v H).ret ?_
  simp [g70_engine_Engine_ticks, there_no n h]
theorem tick_no (n : Nat) {v : AVal} (h : NoEng H v) : acall Tz.F W0 Tz.prim2 (n + 3) 26 [v] H = .ret (.bool false) H := by
  refine (g26_engine_Engine_Tick_ok W0 (n + 2) v H).ret ?_
  simp [g26_engine_Engine_Tick, ticks_no n h]
theorem state_no (n : Nat) {v id : AVal} (h : NoEng H v) : acall Tz.F W0 Tz.prim2 (n + 3) 27 [v, id] H = .ret (.int .i64 0) H := by
  refine (g27_engine_Engine_State_ok W0 (n + 2) v id H).ret ?_
  simp [g27_engine_Engine_State, call_no n h]

def zero13 : List AVal := [.int .i64 0, .int .i64 0, .int .i64 0, .int .i64 0, .int .i64 0, .int .i64 0, .int .i64 0, .int .i64 0, .float .f64 0, .bool false, .bool false, .bool false, .int .i64 0]
theorem look_no (n : Nat) {v : AVal} (h : NoEng H v) : ∃ H', acall Tz.F W0 Tz.prim2 (n + 2) 22 [v] H = .ret (.agg zero13) H' ∧ Ext nowhere H H' := by
  have hx : Ext nowhere H (H.new (.cells 48 zero13 false)) := (Ext.refl _ _).new _
  refine ⟨_, (g22_engine_Engine_Look_ok W0 (n + 1) v H).ret ?_, hx.set (some (.cells 48 zero13 false)) (.inr (Nat.le_refl _))⟩
  have e := there_no (W0 := W0) n (h.ext hx)
  simp only [zero13] at e
  simp [g22_engine_Engine_Look, xNew, zero13]
  rw [e]
  simp [fillA, storeN_at 12, AHeap.get_new, loadN_at 12, AHeap.get_set, resL, resC, zero13]

theorem eqNil (n : Nat) : acall Tz.F W0 Tz.prim2 (n + 2) 69 [.slice none 0 (.ex 0), .slice none 0 (.ex 0)] H = .ret (.bool true) H := by
  refine (g69_flumelaw1_Eq_ok W0 (n + 1) _ _ H).ret ?_
  simp [g69_flumelaw1_Eq, g69_flumelaw1_Eq_l1_succ, g69_flumelaw1_Eq_r1]

theorem result_eq (n : Nat) : ∃ H', acall Tz.F W0 Tz.prim2 (n + 3) 25 [.agg [.int .i64 0, .int .i64 0, .slice none 0 (.ex 0)], .agg [.int .i64 0, .int .i64 0, .slice none 0 (.ex 0)]] H = .ret (.bool true) H' ∧ Ext nowhere H H' := by
  have hx : Ext nowhere H ((H.new (.cells 51 [.int .i64 0, .int .i64 0, .slice none 0 (.ex 0)] false)).new (.cells 51 [.int .i64 0, .int .i64 0, .slice none 0 (.ex 0)] false)) := ((Ext.refl _ _).new _).new _
  refine ⟨_, (g25_flumelaw21_Result_ok W0 (n + 2) _ _ H).ret ?_, hx⟩
  simp [g25_flumelaw21_Result, xNew, load1_at, AHeap.get_new, eqNil]

theorem queueNew_any (n : Nat) (a b : Int) : ∃ v e H', acall Tz.F W0 Tz.prim2 (n + 2) 55 [.int .i64 a, .int .i64 b] H = .ret (.tuple [v, .int .i64 e]) H' ∧ Ext nowhere H H' := by
  have h := g55_queue_New_ok W0 (n + 1) (.int .i64 a) (.int .i64 b) H
  by_cases h1 : a < 1
  · exact ⟨.ptr none, 1, H, h.ret (by simp [g55_queue_New, h1, g55_queue_New_j1]), Ext.refl _ _⟩
  by_cases h2 : 1024 < a
  · exact ⟨.ptr none, 1, H, h.ret (by simp [g55_queue_New, h1, h2, g55_queue_New_j1]), Ext.refl _ _⟩
  by_cases h3 : b < 1
  · exact ⟨.ptr none, 1, H, h.ret (by simp [g55_queue_New, h1, h2, h3, g55_queue_New_j1]), Ext.refl _ _⟩
  by_cases h4 : 16777216 < b
  · exact ⟨.ptr none, 1, H, h.ret (by simp [g55_queue_New, h1, h2, h3, h4, g55_queue_New_j1]), Ext.refl _ _⟩
  · exact ⟨_, 0, _, h.ret (by simp [g55_queue_New, h1, h2, h3, h4, g55_queue_New_j1, xMkMap, fillA, xNew, ev, beq_dec, ble_dec]; exact ⟨rfl, rfl⟩), ((Ext.refl _ _).new _).new _⟩

end Am

namespace Am
open Go

variable {W0 : BaseF} {H H' : AHeap}

theorem new_no (n : Nat) {a b c d e f : Int} {x y : Nat} : ∃ H', acall Tz.F W0 Tz.prim2 (n + 3) 17 [.ptr none, .agg [.int .i64 a, .int .i64 b, .int .i64 c, .int .i64 d, .int .i64 e, .int .i64 f, .float .f64 x, .float .f64 y]] H =
    .ret (.tuple [.ptr none, .agg [.bool false, .int .i64 0, .int .i64 0], .int .i64 1]) H' ∧ Ext nowhere H H' := by
  let cs : List AVal := [.int .i64 a, .int .i64 b, .int .i64 c, .int .i64 d, .int .i64 e, .int .i64 f, .float .f64 x, .float .f64 y]
  let H1 := H.new (.cells 30 cs false)
  let H2 := H1.new (.cells 34 [.bool false, .int .i64 0, .int .i64 0] false)
  have x2 : Ext nowhere H H2 := ((Ext.refl _ _).new _).new _
  obtain ⟨v, e, H3, e3, x3⟩ := queueNew_any (W0 := W0) (H := H2) n c d
  have h34 : Has H3 (H.next + 1) (.cells 34 [.bool false, .int .i64 0, .int .i64 0] false) := (Has.made H1 _).ext x3 id
  refine ⟨_, (g17_engine_New_ok W0 (n + 2) _ _ H).ret ?_, (x2.trans x3).set (i := H.next + 1) (some (.cells 34 [.bool false, .int .i64 0, .int .i64 0] false)) (.inr (by omega))⟩
  simp only [H1, H2, cs] at e3
  simp [g17_engine_New, xNew, load1_at, AHeap.get_new, e3, g17_engine_New_j1, fillA, storeN_at 2, h34.get, loadN_at 2, AHeap.get_set, resL, resC]

theorem round_no (n : Nat) {v qid : AVal} {k l : Int} {dat : AVal} {i4 : Nat} {kx0 : AVal → AVal → AVal → AHeap → CallRes} {m : Nat} {t7 t8 t9 : AVal} {i11 j : Nat} {st11 : Bool} {es : List AVal}
    (hv : NoEng H v) (hd : dat.scalar = true) (h4 : Has H i4 (.cells 43 [.int .i64 k, .int .i64 l, dat] false)) (h11 : Has H i11 (.cells 32 es st11)) (hj : nthN j es = some v) (hj2 : j < 2) :
    ∃ H', g6_flumelaw21_EngineNone_l1 W0 (acall Tz.F W0 Tz.prim2 (n + 3)) (n + 3) kx0 (m + 1) qid (.ptr (some ⟨.loc i4, 0⟩)) t7 t8 t9 (.slice (some ⟨.loc i11, 0⟩) 2 (.ex 2)) (.int .i64 j) H =
      g6_flumelaw21_EngineNone_l1 W0 (acall Tz.F W0 Tz.prim2 (n + 3)) (n + 3) kx0 m qid (.ptr (some ⟨.loc i4, 0⟩)) t7 t8 t9 (.slice (some ⟨.loc i11, 0⟩) 2 (.ex 2)) (.int .i64 (j + 1 : Nat)) H' ∧ Ext nowhere H H' := by
  have hlt : ((j : Int) < 2) := by omega
  have hw : fwrap .i64 ((j : Int) + 1) = ((j + 1 : Nat) : Int) := by rw [fwrap_id] <;> omega
  obtain ⟨H1, e1, x1⟩ := begin_no (W0 := W0) (n + 1) (cs := [.int .i64 k, .int .i64 l, dat]) hv (by simp [hd])
  obtain ⟨H2, e2, x2⟩ := result_no (W0 := W0) n (id := qid) (hv.ext x1)
  let H3 := H2.new (.cells 51 [.int .i64 0, .int .i64 0, .slice none 0 (.ex 0)] false)
  let H4 := H3.set H2.next (some (.cells 51 [.int .i64 0, .int .i64 0, .slice none 0 (.ex 0)] false))
  have x4 : Ext nowhere H H4 := (((x1.trans x2).new _)).set _ (.inr (x1.trans x2).next)
  have hv4 : NoEng H4 v := hv.ext x4
  have e5 := ready_no (W0 := W0) (n + 1) hv4
  obtain ⟨H6, e6, x6⟩ := step_no (W0 := W0) n (id := qid) hv4
  have h46 : Has H6 H2.next (.cells 51 [.int .i64 0, .int .i64 0, .slice none 0 (.ex 0)] false) := ((Has.made H2 _).put).ext x6 id
  obtain ⟨H7, e7, x7⟩ := result_eq (W0 := W0) (H := H6) n
  have x47 : Ext nowhere H H7 := (x4.trans x6).trans x7
  have e8 := tick_no (W0 := W0) n (hv.ext x47)
  obtain ⟨H8, e9, x8⟩ := look_no (W0 := W0) (n + 1) (hv.ext x47)
  have e10 := state_no (W0 := W0) n (id := qid) ((hv.ext x47).ext x8)
  refine ⟨H8, ?_, x47.trans x8⟩
  rw [show n + 1 + 2 = n + 3 from rfl] at e1 e5 e9
  have ho : FloatKind.f64.format.order 0 0 = some .eq := by kernel_rfl
  rw [g6_flumelaw21_EngineNone_l1_succ]
  simp only [H3, H4] at e5 e6
  simp only [zero13] at e9
  simp [hlt, idxSl _ _ _ _ _ _ hj2, load1_at, h11.get, hj, loadN_at 2, h4.get, e1, e2, xNew, storeN_at 2, AHeap.get_new, e5, e6, h46.get, fillA, e7, e8, e9, eqAgg, eqFl, eqF, e10, hw, IntKind.beq, iEq_dec, ho]

/-- the law, at any arguments -/
theorem engineNone_true (n : Nat) {a b c d e f k l : Int} {x y : Nat} {qid dat : AVal} (hd : dat.scalar = true) :
    ∃ H', acall Tz.F W0 Tz.prim2 (n + 5) 6 [.agg [.int .i64 a, .int .i64 b, .int .i64 c, .int .i64 d, .int .i64 e, .int .i64 f, .float .f64 x, .float .f64 y], .agg [.int .i64 k, .int .i64 l, dat], qid] H = .ret (.bool true) H' := by
  let cs : List AVal := [.int .i64 a, .int .i64 b, .int .i64 c, .int .i64 d, .int .i64 e, .int .i64 f, .float .f64 x, .float .f64 y]
  let es : List AVal := [.int .i64 k, .int .i64 l, dat]
  let H1 := H.new (.cells 30 cs false)
  let H2 := H1.new (.cells 43 es false)
  have e0 : acall Tz.F W0 Tz.prim2 (n + 4) 15 [] H2 = .ret (.bool true) H2 := by rw [acall]; rfl
  obtain ⟨H3, e3, x3⟩ := new_no (W0 := W0) (H := H2) (n + 1) (a := a) (b := b) (c := c) (d := d) (e := e) (f := f) (x := x) (y := y)
  let H4 := H3.new (.cells 34 [.bool false, .int .i64 0, .int .i64 0] false)
  let H5 := H4.set H3.next (some (.cells 34 [.bool false, .int .i64 0, .int .i64 0] false))
  have x5 : Ext nowhere H2 H5 := (x3.new _).set _ (.inr x3.next)
  let zs : List AVal := [.int .i64 0, .int .i64 0, .int .i64 0, .int .i64 0, .int .i64 0, .int .i64 0, .float .f64 0, .float .f64 0, .ptr none, .ptr none, .ptr none, .ptr none, .slice none 0 (.ex 0), .slice none 0 (.ex 0), .map none, .map none, .int .i64 0, .ptr none, .float .f64 0, .slice none 0 (.ex 0), .int .i64 0, .bool false, .bool false, .int .i64 0]
  let H6 := H5.new (.cells 71 zs false)
  let H7 := H6.new (.cells 32 [.ptr none, .ptr (some ⟨.loc H5.next, 0⟩)] false)
  have x7 : Ext nowhere H2 H7 := (x5.new _).new _
  have h4 : Has H7 H1.next (.cells 43 es false) := (Has.made H1 (.cells 43 es false)).ext x7 id
  have h11 : Has H7 H6.next (.cells 32 [.ptr none, .ptr (some ⟨.loc H5.next, 0⟩)] false) := Has.made H6 _
  have hf : Has H7 H3.next (.cells 34 [.bool false, .int .i64 0, .int .i64 0] false) := ((Has.made H3 (.cells 34 [.bool false, .int .i64 0, .int .i64 0] false)).put.new).new
  have hz : Has H7 H5.next (.cells 71 zs false) := (Has.made H5 (.cells 71 zs false)).new
  have kx0 := fun (t7_1 : AVal) (t8_1 : AVal) (t9_1 : AVal) (H_9 : AHeap) => (g6_flumelaw21_EngineNone_r1 W0 (acall Tz.F W0 Tz.prim2 (n + 4)) (n + 4) t7_1 t8_1 t9_1 H_9 : CallRes)
  obtain ⟨H8, e8, x8⟩ := round_no (W0 := W0) (n + 1) (qid := qid) (kx0 := fun t7_1 t8_1 t9_1 H_9 => g6_flumelaw21_EngineNone_r1 W0 (acall Tz.F W0 Tz.prim2 (n + 4)) (n + 4) t7_1 t8_1 t9_1 H_9) (m := n + 3)
    (t7 := .ptr none) (t8 := .ptr (some ⟨.loc H3.next, 0⟩)) (t9 := .int .i64 1) (v := .ptr none) (.inl rfl) hd h4 h11 (j := 0) rfl (by omega)
  obtain ⟨H9, e9, x9⟩ := round_no (W0 := W0) (n + 1) (qid := qid) (kx0 := fun t7_1 t8_1 t9_1 H_9 => g6_flumelaw21_EngineNone_r1 W0 (acall Tz.F W0 Tz.prim2 (n + 4)) (n + 4) t7_1 t8_1 t9_1 H_9) (m := n + 2)
    (t7 := .ptr none) (t8 := .ptr (some ⟨.loc H3.next, 0⟩)) (t9 := .int .i64 1) (v := .ptr (some ⟨.loc H5.next, 0⟩)) (.inr ⟨_, _, _, _, rfl, hz.ext x8 id, rfl⟩) hd (h4.ext x8 id) (h11.ext x8 id) (j := 1) rfl (by omega)
  have hf9 := (hf.ext x8 id).ext x9 id
  refine ⟨H9, (g6_flumelaw21_EngineNone_ok W0 (n + 4) _ _ qid H).ret ?_⟩
  simp only [H2, H1, cs, es, H4, H5, H6, H7, zs, show n + 1 + 3 = n + 4 from rfl] at e0 e3 e8 e9 hf9
  simp [g6_flumelaw21_EngineNone, xNew, hd, e0, loadN_at 7, AHeap.get_new, e3, fillA, storeN_at 2, xBuildSl, repl, ev, beq_dec, ble_dec]
  simp at e8
  rw [e8]
  simp at e9
  rw [e9, g6_flumelaw21_EngineNone_l1_succ]
  simp [g6_flumelaw21_EngineNone_r1, loadN_at 2, hf9.get, fillA, eqAgg, eqFl, eqF, IntKind.beq, iEq_dec]

end Am
