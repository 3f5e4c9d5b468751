/- plain forms of the functions that the law reaches, and that each says nothing that the machine does not -/
import Derived.Test.YtbhmnhgljlmafaaGreatMl
import Derived.KernelRfl
set_option linter.all false

namespace Am
open Go
noncomputable section
set_option maxRecDepth 100000


/-! 6 flume.flumelaw21.EngineNone -/
def g6_flumelaw21_EngineNone_r1 (W0 : BaseF) (cf : CallF) (n : Nat) (t7 t8 t9 : AVal) (H : AHeap) : CallRes :=
 pvK (some t7) fun t95x1 =>
 pvK (negB false (eqPtr H t95x1 (.ptr none))) fun t96x1 =>
 pvK (some t96x1) fun t97x1 =>
 condK t97x1
 (pvK (xLoadN W0 3 t8 H) fun t98x1 =>
 pvK (aggO (fillA .leaf (AVal.cells (.agg [(.bool false), (.int .i64 0), (.int .i64 0)])) [])) fun t99x1 =>
 pvK (negB false (eqAgg [.bool, .int, .int] t98x1 t99x1)) fun t100x1 =>
 pvK (xPick (.bool true) t100x1 (.bool false)) fun t101x1 =>
 pvK (some t101x1) fun t102x1 =>
 condK t102x1
 (pvK (some t9) fun t103x1 =>
 pvK (negB false (eqNum t103x1 (.int .i64 1))) fun t104x1 =>
 pvK (xPick (.bool true) t104x1 (.bool false)) fun t105x1 =>
 pvK (some t105x1) fun t6x1 =>
 .ret t6x1 H)
 (pvK (xPick (.bool false) AVal.undef (.bool false)) fun _ =>
 pvK (some (.bool false)) fun _ =>
 .ret (.bool false) H))
 (pvK (xPick (.bool false) AVal.undef (.bool false)) fun _ =>
 pvK (some (.bool false)) fun _ =>
 pvK (xPick (.bool false) AVal.undef (.bool false)) fun _ =>
 pvK (some (.bool false)) fun _ =>
 .ret (.bool false) H)

def g6_flumelaw21_EngineNone_l1 (W0 : BaseF) (cf : CallF) (n : Nat) (kx0 : AVal → AVal → AVal → AHeap → CallRes) (m : Nat) : AVal → AVal → AVal → AVal → AVal → AVal → AVal → AHeap → CallRes :=
  Nat.rec (motive := fun _ => AVal → AVal → AVal → AVal → AVal → AVal → AVal → AHeap → CallRes) (fun _ _ _ _ _ _ _ _ => .stuck)
  (fun _ ih t2 t4 t7 t8 t9 t11 t12 H =>
 pvK (some t12) fun t30x1 =>
 pvK (some t11) fun t31x1 =>
 pvK (xLenSl t31x1) fun t32x1 =>
 pvK (binA .lss t30x1 t32x1) fun t33x1 =>
 condK t33x1
 (pvK (some t11) fun t36x1 =>
 pvK (some t12) fun t37x1 =>
 pvK (xIdxSl 1 t36x1 t37x1) fun t38x1 =>
 pvK (xLoad1 W0 t38x1 H) fun t39x1 =>
 pvK (some t39x1) fun t13x1 =>
 pvK (some t13x1) fun t41x1 =>
 pvK (xLoadN W0 3 t4 H) fun t42x1 =>
 outK (callR (cf 19 [t41x1, t42x1] H)) CallRes.pan fun t43x1 Hx1 =>
 pvK (some t43x1) fun t40x1 =>
 pvK (xExtract t40x1 0) fun t44x1 =>
 pvK (xExtract t40x1 1) fun t45x1 =>
 pvK (some t44x1) fun t14x1 =>
 pvK (some t45x1) fun t15x1 =>
 pvK (some t13x1) fun t47x1 =>
 pvK (some t2) fun t48x1 =>
 outK (callR (cf 23 [t47x1, t48x1] Hx1)) CallRes.pan fun t49x1 Hx2 =>
 pvK (some t49x1) fun t46x1 =>
 pvK (xExtract t46x1 0) fun t50x1 =>
 pvK (xExtract t46x1 1) fun t51x1 =>
 alK (xNew 51 (AVal.cells (.agg [(.int .i64 0), (.int .i64 0), (.slice none 0 (.ex 0))]))) Hx2 fun t16x1 Hx3 =>
 outK (xStore 3 t16x1 t50x1 Hx3) CallRes.pan fun _ Hx4 =>
 pvK (some t51x1) fun t17x1 =>
 let j1 := fun (t94x1 : AVal) (Hx5 : AHeap) => (condK t94x1
 (pvK (some (.bool false)) fun t6x1 =>
 .ret t6x1 Hx5)
 (pvK (some t12) fun t34x1 =>
 pvK (binA .add t34x1 (.int .i64 1)) fun t35x1 =>
 pvK (some t35x1) fun t12x1 =>
 ih t2 t4 t7 t8 t9 t11 t12x1 Hx5) : CallRes)
 pvK (some t14x1) fun t52x2 =>
 pvK (negB true (eqNum t52x2 (.int .i64 0))) fun t53x2 =>
 pvK (some t53x2) fun t54x2 =>
 condK t54x2
 (pvK (xPick (.bool true) (.bool true) AVal.undef) fun _ =>
 pvK (some (.bool true)) fun _ =>
 pvK (xPick (.bool true) (.bool true) AVal.undef) fun _ =>
 pvK (some (.bool true)) fun _ =>
 pvK (xPick (.bool true) (.bool true) AVal.undef) fun _ =>
 pvK (some (.bool true)) fun _ =>
 pvK (xPick (.bool true) (.bool true) AVal.undef) fun _ =>
 pvK (some (.bool true)) fun _ =>
 pvK (xPick (.bool true) (.bool true) AVal.undef) fun _ =>
 pvK (some (.bool true)) fun _ =>
 pvK (xPick (.bool true) (.bool true) AVal.undef) fun _ =>
 pvK (some (.bool true)) fun _ =>
 pvK (xPick (.bool true) (.bool true) AVal.undef) fun _ =>
 pvK (some (.bool true)) fun _ =>
 pvK (xPick (.bool true) (.bool true) AVal.undef) fun _ =>
 j1 (.bool true) Hx4)
 (pvK (some t15x1) fun t55x2 =>
 pvK (negB true (eqNum t55x2 (.int .i64 1))) fun t56x2 =>
 pvK (xPick (.bool false) (.bool true) t56x2) fun t57x3 =>
 pvK (some t57x3) fun t58x3 =>
 condK t58x3
 (pvK (xPick (.bool true) (.bool true) AVal.undef) fun _ =>
 pvK (some (.bool true)) fun _ =>
 pvK (xPick (.bool true) (.bool true) AVal.undef) fun _ =>
 pvK (some (.bool true)) fun _ =>
 pvK (xPick (.bool true) (.bool true) AVal.undef) fun _ =>
 pvK (some (.bool true)) fun _ =>
 pvK (xPick (.bool true) (.bool true) AVal.undef) fun _ =>
 pvK (some (.bool true)) fun _ =>
 pvK (xPick (.bool true) (.bool true) AVal.undef) fun _ =>
 pvK (some (.bool true)) fun _ =>
 pvK (xPick (.bool true) (.bool true) AVal.undef) fun _ =>
 pvK (some (.bool true)) fun _ =>
 pvK (xPick (.bool true) (.bool true) AVal.undef) fun _ =>
 j1 (.bool true) Hx4)
 (pvK (some t13x1) fun t59x2 =>
 outK (callR (cf 20 [t59x2] Hx4)) CallRes.pan fun t60x2 Hx6 =>
 pvK (xLenSl t60x2) fun t61x2 =>
 pvK (negB true (eqNum t61x2 (.int .i64 0))) fun t62x2 =>
 pvK (xPick (.bool false) (.bool true) t62x2) fun t63x4 =>
 pvK (some t63x4) fun t64x4 =>
 condK t64x4
 (pvK (xPick (.bool true) (.bool true) AVal.undef) fun _ =>
 pvK (some (.bool true)) fun _ =>
 pvK (xPick (.bool true) (.bool true) AVal.undef) fun _ =>
 pvK (some (.bool true)) fun _ =>
 pvK (xPick (.bool true) (.bool true) AVal.undef) fun _ =>
 pvK (some (.bool true)) fun _ =>
 pvK (xPick (.bool true) (.bool true) AVal.undef) fun _ =>
 pvK (some (.bool true)) fun _ =>
 pvK (xPick (.bool true) (.bool true) AVal.undef) fun _ =>
 pvK (some (.bool true)) fun _ =>
 pvK (xPick (.bool true) (.bool true) AVal.undef) fun _ =>
 j1 (.bool true) Hx6)
 (pvK (some t13x1) fun t65x2 =>
 pvK (some t2) fun t66x2 =>
 outK (callR (cf 21 [t65x2, t66x2] Hx6)) CallRes.pan fun t67x2 Hx7 =>
 pvK (negB true (eqNum t67x2 (.int .i64 6))) fun t68x2 =>
 pvK (xPick (.bool false) (.bool true) t68x2) fun t69x5 =>
 pvK (some t69x5) fun t70x5 =>
 condK t70x5
 (pvK (xPick (.bool true) (.bool true) AVal.undef) fun _ =>
 pvK (some (.bool true)) fun _ =>
 pvK (xPick (.bool true) (.bool true) AVal.undef) fun _ =>
 pvK (some (.bool true)) fun _ =>
 pvK (xPick (.bool true) (.bool true) AVal.undef) fun _ =>
 pvK (some (.bool true)) fun _ =>
 pvK (xPick (.bool true) (.bool true) AVal.undef) fun _ =>
 pvK (some (.bool true)) fun _ =>
 pvK (xPick (.bool true) (.bool true) AVal.undef) fun _ =>
 j1 (.bool true) Hx7)
 (pvK (some t17x1) fun t71x2 =>
 pvK (xPick (.bool false) (.bool true) t71x2) fun t72x6 =>
 pvK (some t72x6) fun t73x6 =>
 condK t73x6
 (pvK (xPick (.bool true) (.bool true) AVal.undef) fun _ =>
 pvK (some (.bool true)) fun _ =>
 pvK (xPick (.bool true) (.bool true) AVal.undef) fun _ =>
 pvK (some (.bool true)) fun _ =>
 pvK (xPick (.bool true) (.bool true) AVal.undef) fun _ =>
 pvK (some (.bool true)) fun _ =>
 pvK (xPick (.bool true) (.bool true) AVal.undef) fun _ =>
 j1 (.bool true) Hx7)
 (pvK (xLoadN W0 3 t16x1 Hx7) fun t74x2 =>
 pvK (aggO (fillA .leaf (AVal.cells (.agg [(.int .i64 0), (.int .i64 0), (.slice none 0 (.ex 0))])) [])) fun t75x2 =>
 outK (callR (cf 25 [t74x2, t75x2] Hx7)) CallRes.pan fun t76x2 Hx8 =>
 pvK (unA .not t76x2) fun t77x2 =>
 pvK (xPick (.bool false) (.bool true) t77x2) fun t78x7 =>
 pvK (some t78x7) fun t79x7 =>
 condK t79x7
 (pvK (xPick (.bool true) (.bool true) AVal.undef) fun _ =>
 pvK (some (.bool true)) fun _ =>
 pvK (xPick (.bool true) (.bool true) AVal.undef) fun _ =>
 pvK (some (.bool true)) fun _ =>
 pvK (xPick (.bool true) (.bool true) AVal.undef) fun _ =>
 j1 (.bool true) Hx8)
 (pvK (some t13x1) fun t80x2 =>
 outK (callR (cf 26 [t80x2] Hx8)) CallRes.pan fun t81x2 Hx9 =>
 pvK (xPick (.bool false) (.bool true) t81x2) fun t82x8 =>
 pvK (some t82x8) fun t83x8 =>
 condK t83x8
 (pvK (xPick (.bool true) (.bool true) AVal.undef) fun _ =>
 pvK (some (.bool true)) fun _ =>
 pvK (xPick (.bool true) (.bool true) AVal.undef) fun _ =>
 j1 (.bool true) Hx9)
 (pvK (some t13x1) fun t84x2 =>
 outK (callR (cf 22 [t84x2] Hx9)) CallRes.pan fun t85x2 Hx10 =>
 pvK (aggO (fillA .leaf (AVal.cells (.agg [(.int .i64 0), (.int .i64 0), (.int .i64 0), (.int .i64 0), (.int .i64 0), (.int .i64 0), (.int .i64 0), (.int .i64 0), (.float .f64 0), (.bool false), (.bool false), (.bool false), (.int .i64 0)])) [])) fun t86x2 =>
 pvK (negB true (eqAgg [.int, .int, .int, .int, .int, .int, .int, .int, .float, .bool, .bool, .bool, .int] t85x2 t86x2)) fun t87x2 =>
 pvK (xPick (.bool false) (.bool true) t87x2) fun t88x9 =>
 pvK (some t88x9) fun t89x9 =>
 condK t89x9
 (pvK (xPick (.bool true) (.bool true) AVal.undef) fun _ =>
 j1 (.bool true) Hx10)
 (pvK (some t13x1) fun t90x2 =>
 pvK (some t2) fun t91x2 =>
 outK (callR (cf 27 [t90x2, t91x2] Hx10)) CallRes.pan fun t92x2 Hx11 =>
 pvK (negB true (eqNum t92x2 (.int .i64 0))) fun t93x2 =>
 pvK (xPick (.bool false) (.bool true) t93x2) fun t94x10 =>
 j1 t94x10 Hx11)))))))))
 (kx0 t7 t8 t9 H)) m

theorem g6_flumelaw21_EngineNone_l1_succ (W0 : BaseF) (cf : CallF) (n : Nat) (kx0 : AVal → AVal → AVal → AHeap → CallRes) (m : Nat) (t2 t4 t7 t8 t9 t11 t12 : AVal) (H : AHeap) : g6_flumelaw21_EngineNone_l1 W0 cf n kx0 (m + 1) t2 t4 t7 t8 t9 t11 t12 H = (
 pvK (some t12) fun t30x1 =>
 pvK (some t11) fun t31x1 =>
 pvK (xLenSl t31x1) fun t32x1 =>
 pvK (binA .lss t30x1 t32x1) fun t33x1 =>
 condK t33x1
 (pvK (some t11) fun t36x1 =>
 pvK (some t12) fun t37x1 =>
 pvK (xIdxSl 1 t36x1 t37x1) fun t38x1 =>
 pvK (xLoad1 W0 t38x1 H) fun t39x1 =>
 pvK (some t39x1) fun t13x1 =>
 pvK (some t13x1) fun t41x1 =>
 pvK (xLoadN W0 3 t4 H) fun t42x1 =>
 outK (callR (cf 19 [t41x1, t42x1] H)) CallRes.pan fun t43x1 Hx1 =>
 pvK (some t43x1) fun t40x1 =>
 pvK (xExtract t40x1 0) fun t44x1 =>
 pvK (xExtract t40x1 1) fun t45x1 =>
 pvK (some t44x1) fun t14x1 =>
 pvK (some t45x1) fun t15x1 =>
 pvK (some t13x1) fun t47x1 =>
 pvK (some t2) fun t48x1 =>
 outK (callR (cf 23 [t47x1, t48x1] Hx1)) CallRes.pan fun t49x1 Hx2 =>
 pvK (some t49x1) fun t46x1 =>
 pvK (xExtract t46x1 0) fun t50x1 =>
 pvK (xExtract t46x1 1) fun t51x1 =>
 alK (xNew 51 (AVal.cells (.agg [(.int .i64 0), (.int .i64 0), (.slice none 0 (.ex 0))]))) Hx2 fun t16x1 Hx3 =>
 outK (xStore 3 t16x1 t50x1 Hx3) CallRes.pan fun _ Hx4 =>
 pvK (some t51x1) fun t17x1 =>
 let j1 := fun (t94x1 : AVal) (Hx5 : AHeap) => (condK t94x1
 (pvK (some (.bool false)) fun t6x1 =>
 .ret t6x1 Hx5)
 (pvK (some t12) fun t34x1 =>
 pvK (binA .add t34x1 (.int .i64 1)) fun t35x1 =>
 pvK (some t35x1) fun t12x1 =>
 g6_flumelaw21_EngineNone_l1 W0 cf n kx0 m t2 t4 t7 t8 t9 t11 t12x1 Hx5) : CallRes)
 pvK (some t14x1) fun t52x2 =>
 pvK (negB true (eqNum t52x2 (.int .i64 0))) fun t53x2 =>
 pvK (some t53x2) fun t54x2 =>
 condK t54x2
 (pvK (xPick (.bool true) (.bool true) AVal.undef) fun _ =>
 pvK (some (.bool true)) fun _ =>
 pvK (xPick (.bool true) (.bool true) AVal.undef) fun _ =>
 pvK (some (.bool true)) fun _ =>
 pvK (xPick (.bool true) (.bool true) AVal.undef) fun _ =>
 pvK (some (.bool true)) fun _ =>
 pvK (xPick (.bool true) (.bool true) AVal.undef) fun _ =>
 pvK (some (.bool true)) fun _ =>
 pvK (xPick (.bool true) (.bool true) AVal.undef) fun _ =>
 pvK (some (.bool true)) fun _ =>
 pvK (xPick (.bool true) (.bool true) AVal.undef) fun _ =>
 pvK (some (.bool true)) fun _ =>
 pvK (xPick (.bool true) (.bool true) AVal.undef) fun _ =>
 pvK (some (.bool true)) fun _ =>
 pvK (xPick (.bool true) (.bool true) AVal.undef) fun _ =>
 j1 (.bool true) Hx4)
 (pvK (some t15x1) fun t55x2 =>
 pvK (negB true (eqNum t55x2 (.int .i64 1))) fun t56x2 =>
 pvK (xPick (.bool false) (.bool true) t56x2) fun t57x3 =>
 pvK (some t57x3) fun t58x3 =>
 condK t58x3
 (pvK (xPick (.bool true) (.bool true) AVal.undef) fun _ =>
 pvK (some (.bool true)) fun _ =>
 pvK (xPick (.bool true) (.bool true) AVal.undef) fun _ =>
 pvK (some (.bool true)) fun _ =>
 pvK (xPick (.bool true) (.bool true) AVal.undef) fun _ =>
 pvK (some (.bool true)) fun _ =>
 pvK (xPick (.bool true) (.bool true) AVal.undef) fun _ =>
 pvK (some (.bool true)) fun _ =>
 pvK (xPick (.bool true) (.bool true) AVal.undef) fun _ =>
 pvK (some (.bool true)) fun _ =>
 pvK (xPick (.bool true) (.bool true) AVal.undef) fun _ =>
 pvK (some (.bool true)) fun _ =>
 pvK (xPick (.bool true) (.bool true) AVal.undef) fun _ =>
 j1 (.bool true) Hx4)
 (pvK (some t13x1) fun t59x2 =>
 outK (callR (cf 20 [t59x2] Hx4)) CallRes.pan fun t60x2 Hx6 =>
 pvK (xLenSl t60x2) fun t61x2 =>
 pvK (negB true (eqNum t61x2 (.int .i64 0))) fun t62x2 =>
 pvK (xPick (.bool false) (.bool true) t62x2) fun t63x4 =>
 pvK (some t63x4) fun t64x4 =>
 condK t64x4
 (pvK (xPick (.bool true) (.bool true) AVal.undef) fun _ =>
 pvK (some (.bool true)) fun _ =>
 pvK (xPick (.bool true) (.bool true) AVal.undef) fun _ =>
 pvK (some (.bool true)) fun _ =>
 pvK (xPick (.bool true) (.bool true) AVal.undef) fun _ =>
 pvK (some (.bool true)) fun _ =>
 pvK (xPick (.bool true) (.bool true) AVal.undef) fun _ =>
 pvK (some (.bool true)) fun _ =>
 pvK (xPick (.bool true) (.bool true) AVal.undef) fun _ =>
 pvK (some (.bool true)) fun _ =>
 pvK (xPick (.bool true) (.bool true) AVal.undef) fun _ =>
 j1 (.bool true) Hx6)
 (pvK (some t13x1) fun t65x2 =>
 pvK (some t2) fun t66x2 =>
 outK (callR (cf 21 [t65x2, t66x2] Hx6)) CallRes.pan fun t67x2 Hx7 =>
 pvK (negB true (eqNum t67x2 (.int .i64 6))) fun t68x2 =>
 pvK (xPick (.bool false) (.bool true) t68x2) fun t69x5 =>
 pvK (some t69x5) fun t70x5 =>
 condK t70x5
 (pvK (xPick (.bool true) (.bool true) AVal.undef) fun _ =>
 pvK (some (.bool true)) fun _ =>
 pvK (xPick (.bool true) (.bool true) AVal.undef) fun _ =>
 pvK (some (.bool true)) fun _ =>
 pvK (xPick (.bool true) (.bool true) AVal.undef) fun _ =>
 pvK (some (.bool true)) fun _ =>
 pvK (xPick (.bool true) (.bool true) AVal.undef) fun _ =>
 pvK (some (.bool true)) fun _ =>
 pvK (xPick (.bool true) (.bool true) AVal.undef) fun _ =>
 j1 (.bool true) Hx7)
 (pvK (some t17x1) fun t71x2 =>
 pvK (xPick (.bool false) (.bool true) t71x2) fun t72x6 =>
 pvK (some t72x6) fun t73x6 =>
 condK t73x6
 (pvK (xPick (.bool true) (.bool true) AVal.undef) fun _ =>
 pvK (some (.bool true)) fun _ =>
 pvK (xPick (.bool true) (.bool true) AVal.undef) fun _ =>
 pvK (some (.bool true)) fun _ =>
 pvK (xPick (.bool true) (.bool true) AVal.undef) fun _ =>
 pvK (some (.bool true)) fun _ =>
 pvK (xPick (.bool true) (.bool true) AVal.undef) fun _ =>
 j1 (.bool true) Hx7)
 (pvK (xLoadN W0 3 t16x1 Hx7) fun t74x2 =>
 pvK (aggO (fillA .leaf (AVal.cells (.agg [(.int .i64 0), (.int .i64 0), (.slice none 0 (.ex 0))])) [])) fun t75x2 =>
 outK (callR (cf 25 [t74x2, t75x2] Hx7)) CallRes.pan fun t76x2 Hx8 =>
 pvK (unA .not t76x2) fun t77x2 =>
 pvK (xPick (.bool false) (.bool true) t77x2) fun t78x7 =>
 pvK (some t78x7) fun t79x7 =>
 condK t79x7
 (pvK (xPick (.bool true) (.bool true) AVal.undef) fun _ =>
 pvK (some (.bool true)) fun _ =>
 pvK (xPick (.bool true) (.bool true) AVal.undef) fun _ =>
 pvK (some (.bool true)) fun _ =>
 pvK (xPick (.bool true) (.bool true) AVal.undef) fun _ =>
 j1 (.bool true) Hx8)
 (pvK (some t13x1) fun t80x2 =>
 outK (callR (cf 26 [t80x2] Hx8)) CallRes.pan fun t81x2 Hx9 =>
 pvK (xPick (.bool false) (.bool true) t81x2) fun t82x8 =>
 pvK (some t82x8) fun t83x8 =>
 condK t83x8
 (pvK (xPick (.bool true) (.bool true) AVal.undef) fun _ =>
 pvK (some (.bool true)) fun _ =>
 pvK (xPick (.bool true) (.bool true) AVal.undef) fun _ =>
 j1 (.bool true) Hx9)
 (pvK (some t13x1) fun t84x2 =>
 outK (callR (cf 22 [t84x2] Hx9)) CallRes.pan fun t85x2 Hx10 =>
 pvK (aggO (fillA .leaf (AVal.cells (.agg [(.int .i64 0), (.int .i64 0), (.int .i64 0), (.int .i64 0), (.int .i64 0), (.int .i64 0), (.int .i64 0), (.int .i64 0), (.float .f64 0), (.bool false), (.bool false), (.bool false), (.int .i64 0)])) [])) fun t86x2 =>
 pvK (negB true (eqAgg [.int, .int, .int, .int, .int, .int, .int, .int, .float, .bool, .bool, .bool, .int] t85x2 t86x2)) fun t87x2 =>
 pvK (xPick (.bool false) (.bool true) t87x2) fun t88x9 =>
 pvK (some t88x9) fun t89x9 =>
 condK t89x9
 (pvK (xPick (.bool true) (.bool true) AVal.undef) fun _ =>
 j1 (.bool true) Hx10)
 (pvK (some t13x1) fun t90x2 =>
 pvK (some t2) fun t91x2 =>
 outK (callR (cf 27 [t90x2, t91x2] Hx10)) CallRes.pan fun t92x2 Hx11 =>
 pvK (negB true (eqNum t92x2 (.int .i64 0))) fun t93x2 =>
 pvK (xPick (.bool false) (.bool true) t93x2) fun t94x10 =>
 j1 t94x10 Hx11)))))))))
 (kx0 t7 t8 t9 H)) := rfl

def g6_flumelaw21_EngineNone (W0 : BaseF) (cf : CallF) (n : Nat) (t0 t1 t2 : AVal) (H : AHeap) : CallRes :=
 alK (xNew 30 (AVal.cells t0)) H fun t3 Hx1 =>
 alK (xNew 43 (AVal.cells t1)) Hx1 fun t4 Hx2 =>
 pvK (some (.bool false)) fun t6 =>
 outK (callR (cf 15 [] Hx2)) CallRes.pan fun t18 Hx3 =>
 pvK (unA .not t18) fun t19 =>
 condK t19
 (pvK (some (.bool false)) fun t6x1 =>
 .ret t6x1 Hx3)
 (pvK (xLoadN W0 8 t3 Hx3) fun t21 =>
 outK (callR (cf 17 [(.ptr none), t21] Hx3)) CallRes.pan fun t22 Hx4 =>
 pvK (some t22) fun t20 =>
 pvK (xExtract t20 0) fun t23 =>
 pvK (xExtract t20 1) fun t24 =>
 pvK (xExtract t20 2) fun t25 =>
 alK (xNew 34 (AVal.cells (.agg [(.bool false), (.int .i64 0), (.int .i64 0)]))) Hx4 fun t8 Hx5 =>
 pvK (some t23) fun t7 =>
 outK (xStore 3 t8 t24 Hx5) CallRes.pan fun _ Hx6 =>
 pvK (some t25) fun t9 =>
 pvK (some (.ptr none)) fun t10 =>
 pvK (some t10) fun t26 =>
 pvK (aggO (fillA .leaf (AVal.cells (.agg [(.int .i64 0), (.int .i64 0), (.int .i64 0), (.int .i64 0), (.int .i64 0), (.int .i64 0), (.float .f64 0), (.float .f64 0), (.ptr none), (.ptr none), (.ptr none), (.ptr none), (.slice none 0 (.ex 0)), (.slice none 0 (.ex 0)), (.map none), (.map none), (.int .i64 0), (.ptr none), (.float .f64 0), (.slice none 0 (.ex 0)), (.int .i64 0), (.bool false), (.bool false), (.int .i64 0)])) [])) fun t27 =>
 alK (xNew 71 (AVal.cells t27)) Hx6 fun t28 Hx7 =>
 alK (xBuildSl 32 2 (fillA .leaf (repl (AVal.cells (.ptr none)) 2) [(0, 1, .c t26), (1, 1, .c t28)])) Hx7 fun t29 Hx8 =>
 pvK (some t29) fun t11 =>
 pvK (some (.int .i64 0)) fun t12 =>
 g6_flumelaw21_EngineNone_l1 W0 cf n (fun (t7x1 : AVal) (t8x1 : AVal) (t9x1 : AVal) (Hx9 : AHeap) => (g6_flumelaw21_EngineNone_r1 W0 cf n t7x1 t8x1 t9x1 Hx9 : CallRes)) n t2 t4 t7 t8 t9 t11 t12 Hx8)

def g6_flumelaw21_EngineNone_c : ACode := match Tz.F 6 with | some fn => fn.body | none => .stop
theorem g6_flumelaw21_EngineNone_F : Tz.F 6 = some ⟨106, g6_flumelaw21_EngineNone_c, [.t (Path.of 6)]⟩ := by kernel_rfl
def g6_flumelaw21_EngineNone_kr (W0 : BaseF) (cf : CallF) (n : Nat) : KN := fun T D H => leaveK (leaveA Tz.F W0 cf n D .ret H) fun H => resC (resA W0 T H [.t (Path.of 6)]) H
def g6_flumelaw21_EngineNone_kp (W0 : BaseF) (cf : CallF) (n : Nat) : KP := fun v T D H => leaveK (leaveA Tz.F W0 cf n D (.pan v false) H) fun H => resC (resA W0 T H [.t (Path.of 6)]) H
theorem g6_flumelaw21_EngineNone_l1_ok (W0 : BaseF) (cf : CallF) (n : Nat) (kX : Nat → KN) (kx0 : AVal → AVal → AVal → AHeap → CallRes) (h0_ : ∀ T H, Below (kx0 (tt T 7) (tt T 8) (tt T 9) H) (kX 0 T [] H)) : ∀ m T H, Below (g6_flumelaw21_EngineNone_l1 W0 cf n kx0 m (tt T 2) (tt T 4) (tt T 7) (tt T 8) (tt T 9) (tt T 11) (tt T 12) H) (loopK (codeK W0 cf n (g6_flumelaw21_EngineNone_kr W0 cf n) (g6_flumelaw21_EngineNone_kp W0 cf n) (((((((((g6_flumelaw21_EngineNone_c).sb).sb).sb).sb).sb).sa).sb).sa).sa .no kX) m T [] H)
  := by
  intro m
  induction m with
  | zero => intro T H; exact Below.stuck _
  | succ m ih =>
    have h7 : ∀ T H, Below (pvK (some (tt T 12)) fun t30 =>
 pvK (some (tt T 11)) fun t31 =>
 pvK (xLenSl t31) fun t32 =>
 pvK (binA .lss t30 t32) fun t33 =>
 condK t33
 (pvK (some (tt T 11)) fun t36 =>
 pvK (some (tt T 12)) fun t37 =>
 pvK (xIdxSl 1 t36 t37) fun t38 =>
 pvK (xLoad1 W0 t38 H) fun t39 =>
 pvK (some t39) fun t13 =>
 pvK (some t13) fun t41 =>
 pvK (xLoadN W0 3 (tt T 4) H) fun t42 =>
 outK (callR (cf 19 [t41, t42] H)) CallRes.pan fun t43 Hx23 =>
 pvK (some t43) fun t40 =>
 pvK (xExtract t40 0) fun t44 =>
 pvK (xExtract t40 1) fun t45 =>
 pvK (some t44) fun t14 =>
 pvK (some t45) fun t15 =>
 pvK (some t13) fun t47 =>
 pvK (some (tt T 2)) fun t48 =>
 outK (callR (cf 23 [t47, t48] Hx23)) CallRes.pan fun t49 Hx24 =>
 pvK (some t49) fun t46 =>
 pvK (xExtract t46 0) fun t50 =>
 pvK (xExtract t46 1) fun t51 =>
 alK (xNew 51 (AVal.cells (.agg [(.int .i64 0), (.int .i64 0), (.slice none 0 (.ex 0))]))) Hx24 fun t16 Hx25 =>
 outK (xStore 3 t16 t50 Hx25) CallRes.pan fun _ Hx26 =>
 pvK (some t51) fun t17 =>
 let j2 := fun (t94 : AVal) (Hx27 : AHeap) => (condK t94
 (pvK (some (.bool false)) fun t6x7 =>
 .ret t6x7 Hx27)
 (pvK (some (tt T 12)) fun t34 =>
 pvK (binA .add t34 (.int .i64 1)) fun t35 =>
 pvK (some t35) fun t12x4 =>
 g6_flumelaw21_EngineNone_l1 W0 cf n kx0 m (tt T 2) (tt T 4) (tt T 7) (tt T 8) (tt T 9) (tt T 11) t12x4 Hx27) : CallRes)
 pvK (some t14) fun t52x1 =>
 pvK (negB true (eqNum t52x1 (.int .i64 0))) fun t53x1 =>
 pvK (some t53x1) fun t54x1 =>
 condK t54x1
 (pvK (xPick (.bool true) (.bool true) AVal.undef) fun _ =>
 pvK (some (.bool true)) fun _ =>
 pvK (xPick (.bool true) (.bool true) AVal.undef) fun _ =>
 pvK (some (.bool true)) fun _ =>
 pvK (xPick (.bool true) (.bool true) AVal.undef) fun _ =>
 pvK (some (.bool true)) fun _ =>
 pvK (xPick (.bool true) (.bool true) AVal.undef) fun _ =>
 pvK (some (.bool true)) fun _ =>
 pvK (xPick (.bool true) (.bool true) AVal.undef) fun _ =>
 pvK (some (.bool true)) fun _ =>
 pvK (xPick (.bool true) (.bool true) AVal.undef) fun _ =>
 pvK (some (.bool true)) fun _ =>
 pvK (xPick (.bool true) (.bool true) AVal.undef) fun _ =>
 pvK (some (.bool true)) fun _ =>
 pvK (xPick (.bool true) (.bool true) AVal.undef) fun _ =>
 j2 (.bool true) Hx26)
 (pvK (some t15) fun t55x1 =>
 pvK (negB true (eqNum t55x1 (.int .i64 1))) fun t56x1 =>
 pvK (xPick (.bool false) (.bool true) t56x1) fun t57x2 =>
 pvK (some t57x2) fun t58x2 =>
 condK t58x2
 (pvK (xPick (.bool true) (.bool true) AVal.undef) fun _ =>
 pvK (some (.bool true)) fun _ =>
 pvK (xPick (.bool true) (.bool true) AVal.undef) fun _ =>
 pvK (some (.bool true)) fun _ =>
 pvK (xPick (.bool true) (.bool true) AVal.undef) fun _ =>
 pvK (some (.bool true)) fun _ =>
 pvK (xPick (.bool true) (.bool true) AVal.undef) fun _ =>
 pvK (some (.bool true)) fun _ =>
 pvK (xPick (.bool true) (.bool true) AVal.undef) fun _ =>
 pvK (some (.bool true)) fun _ =>
 pvK (xPick (.bool true) (.bool true) AVal.undef) fun _ =>
 pvK (some (.bool true)) fun _ =>
 pvK (xPick (.bool true) (.bool true) AVal.undef) fun _ =>
 j2 (.bool true) Hx26)
 (pvK (some t13) fun t59x1 =>
 outK (callR (cf 20 [t59x1] Hx26)) CallRes.pan fun t60x1 Hx28 =>
 pvK (xLenSl t60x1) fun t61x1 =>
 pvK (negB true (eqNum t61x1 (.int .i64 0))) fun t62x1 =>
 pvK (xPick (.bool false) (.bool true) t62x1) fun t63x3 =>
 pvK (some t63x3) fun t64x3 =>
 condK t64x3
 (pvK (xPick (.bool true) (.bool true) AVal.undef) fun _ =>
 pvK (some (.bool true)) fun _ =>
 pvK (xPick (.bool true) (.bool true) AVal.undef) fun _ =>
 pvK (some (.bool true)) fun _ =>
 pvK (xPick (.bool true) (.bool true) AVal.undef) fun _ =>
 pvK (some (.bool true)) fun _ =>
 pvK (xPick (.bool true) (.bool true) AVal.undef) fun _ =>
 pvK (some (.bool true)) fun _ =>
 pvK (xPick (.bool true) (.bool true) AVal.undef) fun _ =>
 pvK (some (.bool true)) fun _ =>
 pvK (xPick (.bool true) (.bool true) AVal.undef) fun _ =>
 j2 (.bool true) Hx28)
 (pvK (some t13) fun t65x1 =>
 pvK (some (tt T 2)) fun t66x1 =>
 outK (callR (cf 21 [t65x1, t66x1] Hx28)) CallRes.pan fun t67x1 Hx29 =>
 pvK (negB true (eqNum t67x1 (.int .i64 6))) fun t68x1 =>
 pvK (xPick (.bool false) (.bool true) t68x1) fun t69x4 =>
 pvK (some t69x4) fun t70x4 =>
 condK t70x4
 (pvK (xPick (.bool true) (.bool true) AVal.undef) fun _ =>
 pvK (some (.bool true)) fun _ =>
 pvK (xPick (.bool true) (.bool true) AVal.undef) fun _ =>
 pvK (some (.bool true)) fun _ =>
 pvK (xPick (.bool true) (.bool true) AVal.undef) fun _ =>
 pvK (some (.bool true)) fun _ =>
 pvK (xPick (.bool true) (.bool true) AVal.undef) fun _ =>
 pvK (some (.bool true)) fun _ =>
 pvK (xPick (.bool true) (.bool true) AVal.undef) fun _ =>
 j2 (.bool true) Hx29)
 (pvK (some t17) fun t71x1 =>
 pvK (xPick (.bool false) (.bool true) t71x1) fun t72x5 =>
 pvK (some t72x5) fun t73x5 =>
 condK t73x5
 (pvK (xPick (.bool true) (.bool true) AVal.undef) fun _ =>
 pvK (some (.bool true)) fun _ =>
 pvK (xPick (.bool true) (.bool true) AVal.undef) fun _ =>
 pvK (some (.bool true)) fun _ =>
 pvK (xPick (.bool true) (.bool true) AVal.undef) fun _ =>
 pvK (some (.bool true)) fun _ =>
 pvK (xPick (.bool true) (.bool true) AVal.undef) fun _ =>
 j2 (.bool true) Hx29)
 (pvK (xLoadN W0 3 t16 Hx29) fun t74x1 =>
 pvK (aggO (fillA .leaf (AVal.cells (.agg [(.int .i64 0), (.int .i64 0), (.slice none 0 (.ex 0))])) [])) fun t75x1 =>
 outK (callR (cf 25 [t74x1, t75x1] Hx29)) CallRes.pan fun t76x1 Hx30 =>
 pvK (unA .not t76x1) fun t77x1 =>
 pvK (xPick (.bool false) (.bool true) t77x1) fun t78x6 =>
 pvK (some t78x6) fun t79x6 =>
 condK t79x6
 (pvK (xPick (.bool true) (.bool true) AVal.undef) fun _ =>
 pvK (some (.bool true)) fun _ =>
 pvK (xPick (.bool true) (.bool true) AVal.undef) fun _ =>
 pvK (some (.bool true)) fun _ =>
 pvK (xPick (.bool true) (.bool true) AVal.undef) fun _ =>
 j2 (.bool true) Hx30)
 (pvK (some t13) fun t80x1 =>
 outK (callR (cf 26 [t80x1] Hx30)) CallRes.pan fun t81x1 Hx31 =>
 pvK (xPick (.bool false) (.bool true) t81x1) fun t82x7 =>
 pvK (some t82x7) fun t83x7 =>
 condK t83x7
 (pvK (xPick (.bool true) (.bool true) AVal.undef) fun _ =>
 pvK (some (.bool true)) fun _ =>
 pvK (xPick (.bool true) (.bool true) AVal.undef) fun _ =>
 j2 (.bool true) Hx31)
 (pvK (some t13) fun t84x1 =>
 outK (callR (cf 22 [t84x1] Hx31)) CallRes.pan fun t85x1 Hx32 =>
 pvK (aggO (fillA .leaf (AVal.cells (.agg [(.int .i64 0), (.int .i64 0), (.int .i64 0), (.int .i64 0), (.int .i64 0), (.int .i64 0), (.int .i64 0), (.int .i64 0), (.float .f64 0), (.bool false), (.bool false), (.bool false), (.int .i64 0)])) [])) fun t86x1 =>
 pvK (negB true (eqAgg [.int, .int, .int, .int, .int, .int, .int, .int, .float, .bool, .bool, .bool, .int] t85x1 t86x1)) fun t87x1 =>
 pvK (xPick (.bool false) (.bool true) t87x1) fun t88x8 =>
 pvK (some t88x8) fun t89x8 =>
 condK t89x8
 (pvK (xPick (.bool true) (.bool true) AVal.undef) fun _ =>
 j2 (.bool true) Hx32)
 (pvK (some t13) fun t90x1 =>
 pvK (some (tt T 2)) fun t91x1 =>
 outK (callR (cf 27 [t90x1, t91x1] Hx32)) CallRes.pan fun t92x1 Hx33 =>
 pvK (negB true (eqNum t92x1 (.int .i64 0))) fun t93x1 =>
 pvK (xPick (.bool false) (.bool true) t93x1) fun t94x9 =>
 j2 t94x9 Hx33)))))))))
 (kx0 (tt T 7) (tt T 8) (tt T 9) H)) (codeK W0 cf n (g6_flumelaw21_EngineNone_kr W0 cf n) (g6_flumelaw21_EngineNone_kp W0 cf n) (((((((((g6_flumelaw21_EngineNone_c).sb).sb).sb).sb).sb).sa).sb).sa).sa .no (fun i T D H => (bif Nat.beq i 0 then (kx0 (tt T 7) (tt T 8) (tt T 9) H : CallRes) else CallRes.stuck : CallRes)) (fun T D H => (g6_flumelaw21_EngineNone_l1 W0 cf n kx0 m (tt T 2) (tt T 4) (tt T 7) (tt T 8) (tt T 9) (tt T 11) (tt T 12) H : CallRes)) T [] H) := fun T H => Below.of_eq (by kernel_rfl)
    intro T H
    refine Below.conv (Below.trans (h7 T H) (codeK_mono _ (kX' := kX) (fun i T H => ?_) ih T H)) (g6_flumelaw21_EngineNone_l1_succ W0 cf n kx0 m (tt T 2) (tt T 4) (tt T 7) (tt T 8) (tt T 9) (tt T 11) (tt T 12) H) (loopK_succ _ _ _ _ _)
    try dsimp only
    cases q0 : Nat.beq i 0 with
    | true => rw [Nat.eq_of_beq_eq_true q0]; exact h0_ T H
    | false =>
      exact Below.stuck _

theorem g6_flumelaw21_EngineNone_k (W0 : BaseF) (cf : CallF) (n : Nat) (t0 t1 t2 : AVal) (H : AHeap) : Below (g6_flumelaw21_EngineNone W0 cf n t0 t1 t2 H) (codeK W0 cf n (g6_flumelaw21_EngineNone_kr W0 cf n) (g6_flumelaw21_EngineNone_kp W0 cf n) g6_flumelaw21_EngineNone_c .no (fun _ _ _ _ => .stuck) (g6_flumelaw21_EngineNone_kr W0 cf n) (frameOf [t0, t1, t2]) [] H) := by
  have h3 : ∀ T H, Below (pvK (some (tt T 7)) fun t95 =>
 pvK (negB false (eqPtr H t95 (.ptr none))) fun t96 =>
 pvK (some t96) fun t97 =>
 condK t97
 (pvK (xLoadN W0 3 (tt T 8) H) fun t98 =>
 pvK (aggO (fillA .leaf (AVal.cells (.agg [(.bool false), (.int .i64 0), (.int .i64 0)])) [])) fun t99 =>
 pvK (negB false (eqAgg [.bool, .int, .int] t98 t99)) fun t100 =>
 pvK (xPick (.bool true) t100 (.bool false)) fun t101 =>
 pvK (some t101) fun t102 =>
 condK t102
 (pvK (some (tt T 9)) fun t103 =>
 pvK (negB false (eqNum t103 (.int .i64 1))) fun t104 =>
 pvK (xPick (.bool true) t104 (.bool false)) fun t105 =>
 pvK (some t105) fun t6x4 =>
 .ret t6x4 H)
 (pvK (xPick (.bool false) AVal.undef (.bool false)) fun _ =>
 pvK (some (.bool false)) fun _ =>
 .ret (.bool false) H))
 (pvK (xPick (.bool false) AVal.undef (.bool false)) fun _ =>
 pvK (some (.bool false)) fun _ =>
 pvK (xPick (.bool false) AVal.undef (.bool false)) fun _ =>
 pvK (some (.bool false)) fun _ =>
 .ret (.bool false) H)) (codeK W0 cf n (g6_flumelaw21_EngineNone_kr W0 cf n) (g6_flumelaw21_EngineNone_kp W0 cf n) ((((((g6_flumelaw21_EngineNone_c).sb).sb).sb).sb).sb).sb .no (fun i T D H => (CallRes.stuck : CallRes)) (fun T D H => (.ret (tt T 6) H : CallRes)) T [] H) := fun T H => Below.of_eq (by kernel_rfl)
  have h6 : ∀ T H, Below (g6_flumelaw21_EngineNone_l1 W0 cf n (fun (t7x7 : AVal) (t8x7 : AVal) (t9x7 : AVal) (Hx22 : AHeap) => (g6_flumelaw21_EngineNone_r1 W0 cf n t7x7 t8x7 t9x7 Hx22 : CallRes)) n (tt T 2) (tt T 4) (tt T 7) (tt T 8) (tt T 9) (tt T 11) (tt T 12) H) (codeK W0 cf n (g6_flumelaw21_EngineNone_kr W0 cf n) (g6_flumelaw21_EngineNone_kp W0 cf n) ((((((((g6_flumelaw21_EngineNone_c).sb).sb).sb).sb).sb).sa).sb).sa .no (fun i T D H => (bif Nat.beq i 0 then (g6_flumelaw21_EngineNone_r1 W0 cf n (tt T 7) (tt T 8) (tt T 9) H : CallRes) else CallRes.stuck : CallRes)) (fun T D H => (g6_flumelaw21_EngineNone_r1 W0 cf n (tt T 7) (tt T 8) (tt T 9) H : CallRes)) T [] H) := fun T H => Below.conv (g6_flumelaw21_EngineNone_l1_ok W0 cf n (fun i T D H => (bif Nat.beq i 0 then (g6_flumelaw21_EngineNone_r1 W0 cf n (tt T 7) (tt T 8) (tt T 9) H : CallRes) else CallRes.stuck : CallRes)) (fun (t7x8 : AVal) (t8x8 : AVal) (t9x8 : AVal) (Hx34 : AHeap) => (g6_flumelaw21_EngineNone_r1 W0 cf n t7x8 t8x8 t9x8 Hx34 : CallRes)) (fun T H => Below.of_eq (by kernel_rfl)) n T H) (by kernel_rfl) (by kernel_rfl)
  have h5 : ∀ T H, Below (g6_flumelaw21_EngineNone_l1 W0 cf n (fun (t7x6 : AVal) (t8x6 : AVal) (t9x6 : AVal) (Hx21 : AHeap) => (g6_flumelaw21_EngineNone_r1 W0 cf n t7x6 t8x6 t9x6 Hx21 : CallRes)) n (tt T 2) (tt T 4) (tt T 7) (tt T 8) (tt T 9) (tt T 11) (tt T 12) H) (codeK W0 cf n (g6_flumelaw21_EngineNone_kr W0 cf n) (g6_flumelaw21_EngineNone_kp W0 cf n) (((((((g6_flumelaw21_EngineNone_c).sb).sb).sb).sb).sb).sa).sb .no (fun i T D H => (CallRes.stuck : CallRes)) (fun T D H => (g6_flumelaw21_EngineNone_r1 W0 cf n (tt T 7) (tt T 8) (tt T 9) H : CallRes)) T [] H) := fun T H => Below.conv (h6 T H) (by kernel_rfl) (by kernel_rfl)
  have h8 : ∀ T H, Below (pvK (some (.int .i64 0)) fun t12x5 =>
 g6_flumelaw21_EngineNone_l1 W0 cf n (fun (t7x10 : AVal) (t8x10 : AVal) (t9x10 : AVal) (Hx36 : AHeap) => (g6_flumelaw21_EngineNone_r1 W0 cf n t7x10 t8x10 t9x10 Hx36 : CallRes)) n (tt T 2) (tt T 4) (tt T 7) (tt T 8) (tt T 9) (tt T 11) t12x5 H) ((fun T D H => codeK W0 cf n (g6_flumelaw21_EngineNone_kr W0 cf n) (g6_flumelaw21_EngineNone_kp W0 cf n) (((((((g6_flumelaw21_EngineNone_c).sb).sb).sb).sb).sb).sa).sa .no (fun i T D H => (CallRes.stuck : CallRes)) (fun T D H => (g6_flumelaw21_EngineNone_l1 W0 cf n (fun (t7x9 : AVal) (t8x9 : AVal) (t9x9 : AVal) (Hx35 : AHeap) => (g6_flumelaw21_EngineNone_r1 W0 cf n t7x9 t8x9 t9x9 Hx35 : CallRes)) n (tt T 2) (tt T 4) (tt T 7) (tt T 8) (tt T 9) (tt T 11) (tt T 12) H : CallRes)) T D H) T [] H) := fun T H => Below.of_eq (by kernel_rfl)
  have h4 : ∀ T H, Below (pvK (some (.int .i64 0)) fun t12x3 =>
 g6_flumelaw21_EngineNone_l1 W0 cf n (fun (t7x5 : AVal) (t8x5 : AVal) (t9x5 : AVal) (Hx20 : AHeap) => (g6_flumelaw21_EngineNone_r1 W0 cf n t7x5 t8x5 t9x5 Hx20 : CallRes)) n (tt T 2) (tt T 4) (tt T 7) (tt T 8) (tt T 9) (tt T 11) t12x3 H) (codeK W0 cf n (g6_flumelaw21_EngineNone_kr W0 cf n) (g6_flumelaw21_EngineNone_kp W0 cf n) ((((((g6_flumelaw21_EngineNone_c).sb).sb).sb).sb).sb).sa .no (fun i T D H => (CallRes.stuck : CallRes)) (fun T D H => (g6_flumelaw21_EngineNone_r1 W0 cf n (tt T 7) (tt T 8) (tt T 9) H : CallRes)) T [] H) := fun T H => Below.conv (Below.trans (h8 T H) ((fun T H => codeK_mono (((((((g6_flumelaw21_EngineNone_c).sb).sb).sb).sb).sb).sa).sa (fun _ _ _ => Below.refl _) h5 T H) T H)) (by kernel_rfl) (by kernel_rfl)
  have h2 : ∀ T H, Below (pvK (some (.int .i64 0)) fun t12x2 =>
 g6_flumelaw21_EngineNone_l1 W0 cf n (fun (t7x4 : AVal) (t8x4 : AVal) (t9x4 : AVal) (Hx19 : AHeap) => (g6_flumelaw21_EngineNone_r1 W0 cf n t7x4 t8x4 t9x4 Hx19 : CallRes)) n (tt T 2) (tt T 4) (tt T 7) (tt T 8) (tt T 9) (tt T 11) t12x2 H) (codeK W0 cf n (g6_flumelaw21_EngineNone_kr W0 cf n) (g6_flumelaw21_EngineNone_kp W0 cf n) (((((g6_flumelaw21_EngineNone_c).sb).sb).sb).sb).sb .no (fun i T D H => (CallRes.stuck : CallRes)) (fun T D H => (.ret (tt T 6) H : CallRes)) T [] H) := fun T H => Below.conv (Below.trans (h4 T H) (codeK_mono _ (fun _ _ _ => Below.refl _) h3 T H)) (by kernel_rfl) (by kernel_rfl)
  have h9 : ∀ T H, Below (alK (xNew 30 (AVal.cells (tt T 0))) H fun t3x2 Hx38 =>
 alK (xNew 43 (AVal.cells (tt T 1))) Hx38 fun t4x2 Hx39 =>
 pvK (some (.bool false)) fun t6x8 =>
 outK (callR (cf 15 [] Hx39)) CallRes.pan fun t18x2 Hx40 =>
 pvK (unA .not t18x2) fun t19x2 =>
 condK t19x2
 (pvK (some (.bool false)) fun t6x9 =>
 .ret t6x9 Hx40)
 (pvK (xLoadN W0 8 t3x2 Hx40) fun t21x2 =>
 outK (callR (cf 17 [(.ptr none), t21x2] Hx40)) CallRes.pan fun t22x2 Hx41 =>
 pvK (some t22x2) fun t20x2 =>
 pvK (xExtract t20x2 0) fun t23x2 =>
 pvK (xExtract t20x2 1) fun t24x2 =>
 pvK (xExtract t20x2 2) fun t25x2 =>
 alK (xNew 34 (AVal.cells (.agg [(.bool false), (.int .i64 0), (.int .i64 0)]))) Hx41 fun t8x12 Hx42 =>
 pvK (some t23x2) fun t7x12 =>
 outK (xStore 3 t8x12 t24x2 Hx42) CallRes.pan fun _ Hx43 =>
 pvK (some t25x2) fun t9x12 =>
 pvK (some (.ptr none)) fun t10x2 =>
 pvK (some t10x2) fun t26x2 =>
 pvK (aggO (fillA .leaf (AVal.cells (.agg [(.int .i64 0), (.int .i64 0), (.int .i64 0), (.int .i64 0), (.int .i64 0), (.int .i64 0), (.float .f64 0), (.float .f64 0), (.ptr none), (.ptr none), (.ptr none), (.ptr none), (.slice none 0 (.ex 0)), (.slice none 0 (.ex 0)), (.map none), (.map none), (.int .i64 0), (.ptr none), (.float .f64 0), (.slice none 0 (.ex 0)), (.int .i64 0), (.bool false), (.bool false), (.int .i64 0)])) [])) fun t27x2 =>
 alK (xNew 71 (AVal.cells t27x2)) Hx43 fun t28x2 Hx44 =>
 alK (xBuildSl 32 2 (fillA .leaf (repl (AVal.cells (.ptr none)) 2) [(0, 1, .c t26x2), (1, 1, .c t28x2)])) Hx44 fun t29x2 Hx45 =>
 pvK (some t29x2) fun t11x2 =>
 pvK (some (.int .i64 0)) fun t12x7 =>
 g6_flumelaw21_EngineNone_l1 W0 cf n (fun (t7x13 : AVal) (t8x13 : AVal) (t9x13 : AVal) (Hx46 : AHeap) => (g6_flumelaw21_EngineNone_r1 W0 cf n t7x13 t8x13 t9x13 Hx46 : CallRes)) n (tt T 2) t4x2 t7x12 t8x12 t9x12 t11x2 t12x7 Hx45)) ((fun T D H => codeK W0 cf n (g6_flumelaw21_EngineNone_kr W0 cf n) (g6_flumelaw21_EngineNone_kp W0 cf n) (g6_flumelaw21_EngineNone_c).sa .no (fun i T D H => (CallRes.stuck : CallRes)) (fun T D H => codeK W0 cf n (g6_flumelaw21_EngineNone_kr W0 cf n) (g6_flumelaw21_EngineNone_kp W0 cf n) ((g6_flumelaw21_EngineNone_c).sb).sa .no (fun i T D H => (CallRes.stuck : CallRes)) (fun T D H => codeK W0 cf n (g6_flumelaw21_EngineNone_kr W0 cf n) (g6_flumelaw21_EngineNone_kp W0 cf n) (((g6_flumelaw21_EngineNone_c).sb).sb).sa .no (fun i T D H => (CallRes.stuck : CallRes)) (fun T D H => codeK W0 cf n (g6_flumelaw21_EngineNone_kr W0 cf n) (g6_flumelaw21_EngineNone_kp W0 cf n) ((((g6_flumelaw21_EngineNone_c).sb).sb).sb).sa .no (fun i T D H => (CallRes.stuck : CallRes)) (fun T D H => codeK W0 cf n (g6_flumelaw21_EngineNone_kr W0 cf n) (g6_flumelaw21_EngineNone_kp W0 cf n) (((((g6_flumelaw21_EngineNone_c).sb).sb).sb).sb).sa .no (fun i T D H => (CallRes.stuck : CallRes)) (fun T D H => (pvK (some (.int .i64 0)) fun t12x6 =>
 g6_flumelaw21_EngineNone_l1 W0 cf n (fun (t7x11 : AVal) (t8x11 : AVal) (t9x11 : AVal) (Hx37 : AHeap) => (g6_flumelaw21_EngineNone_r1 W0 cf n t7x11 t8x11 t9x11 Hx37 : CallRes)) n (tt T 2) (tt T 4) (tt T 7) (tt T 8) (tt T 9) (tt T 11) t12x6 H : CallRes)) T D H) T D H) T D H) T D H) T D H) T [] H) := fun T H => Below.of_eq (by kernel_rfl)
  have h1 : ∀ T H, Below (alK (xNew 30 (AVal.cells (tt T 0))) H fun t3x1 Hx10 =>
 alK (xNew 43 (AVal.cells (tt T 1))) Hx10 fun t4x1 Hx11 =>
 pvK (some (.bool false)) fun t6x2 =>
 outK (callR (cf 15 [] Hx11)) CallRes.pan fun t18x1 Hx12 =>
 pvK (unA .not t18x1) fun t19x1 =>
 condK t19x1
 (pvK (some (.bool false)) fun t6x3 =>
 .ret t6x3 Hx12)
 (pvK (xLoadN W0 8 t3x1 Hx12) fun t21x1 =>
 outK (callR (cf 17 [(.ptr none), t21x1] Hx12)) CallRes.pan fun t22x1 Hx13 =>
 pvK (some t22x1) fun t20x1 =>
 pvK (xExtract t20x1 0) fun t23x1 =>
 pvK (xExtract t20x1 1) fun t24x1 =>
 pvK (xExtract t20x1 2) fun t25x1 =>
 alK (xNew 34 (AVal.cells (.agg [(.bool false), (.int .i64 0), (.int .i64 0)]))) Hx13 fun t8x2 Hx14 =>
 pvK (some t23x1) fun t7x2 =>
 outK (xStore 3 t8x2 t24x1 Hx14) CallRes.pan fun _ Hx15 =>
 pvK (some t25x1) fun t9x2 =>
 pvK (some (.ptr none)) fun t10x1 =>
 pvK (some t10x1) fun t26x1 =>
 pvK (aggO (fillA .leaf (AVal.cells (.agg [(.int .i64 0), (.int .i64 0), (.int .i64 0), (.int .i64 0), (.int .i64 0), (.int .i64 0), (.float .f64 0), (.float .f64 0), (.ptr none), (.ptr none), (.ptr none), (.ptr none), (.slice none 0 (.ex 0)), (.slice none 0 (.ex 0)), (.map none), (.map none), (.int .i64 0), (.ptr none), (.float .f64 0), (.slice none 0 (.ex 0)), (.int .i64 0), (.bool false), (.bool false), (.int .i64 0)])) [])) fun t27x1 =>
 alK (xNew 71 (AVal.cells t27x1)) Hx15 fun t28x1 Hx16 =>
 alK (xBuildSl 32 2 (fillA .leaf (repl (AVal.cells (.ptr none)) 2) [(0, 1, .c t26x1), (1, 1, .c t28x1)])) Hx16 fun t29x1 Hx17 =>
 pvK (some t29x1) fun t11x1 =>
 pvK (some (.int .i64 0)) fun t12x1 =>
 g6_flumelaw21_EngineNone_l1 W0 cf n (fun (t7x3 : AVal) (t8x3 : AVal) (t9x3 : AVal) (Hx18 : AHeap) => (g6_flumelaw21_EngineNone_r1 W0 cf n t7x3 t8x3 t9x3 Hx18 : CallRes)) n (tt T 2) t4x1 t7x2 t8x2 t9x2 t11x1 t12x1 Hx17)) (codeK W0 cf n (g6_flumelaw21_EngineNone_kr W0 cf n) (g6_flumelaw21_EngineNone_kp W0 cf n) g6_flumelaw21_EngineNone_c .no (fun i T D H => (CallRes.stuck : CallRes)) (fun T D H => (.ret (tt T 6) H : CallRes)) T [] H) := fun T H => Below.conv (Below.trans (h9 T H) ((fun T H => codeK_mono (g6_flumelaw21_EngineNone_c).sa (fun _ _ _ => Below.refl _) (fun T H => codeK_mono ((g6_flumelaw21_EngineNone_c).sb).sa (fun _ _ _ => Below.refl _) (fun T H => codeK_mono (((g6_flumelaw21_EngineNone_c).sb).sb).sa (fun _ _ _ => Below.refl _) (fun T H => codeK_mono ((((g6_flumelaw21_EngineNone_c).sb).sb).sb).sa (fun _ _ _ => Below.refl _) (fun T H => codeK_mono (((((g6_flumelaw21_EngineNone_c).sb).sb).sb).sb).sa (fun _ _ _ => Below.refl _) h2 T H) T H) T H) T H) T H) T H)) (by kernel_rfl) (by kernel_rfl)
  exact Below.conv (Below.trans (h1 (frameOf [t0, t1, t2]) H) (codeK_mono (D := []) (kN' := g6_flumelaw21_EngineNone_kr W0 cf n) g6_flumelaw21_EngineNone_c (fun _ _ _ => Below.refl _) (fun T H => Below.of_eq (by kernel_rfl)) (frameOf [t0, t1, t2]) H)) (by kernel_rfl) rfl
theorem g6_flumelaw21_EngineNone_ok (W0 : BaseF) (n : Nat) (t0 t1 t2 : AVal) (H : AHeap) : Below (g6_flumelaw21_EngineNone W0 (acall Tz.F W0 Tz.prim2 n) n t0 t1 t2 H) (acall Tz.F W0 Tz.prim2 (n + 1) 6 [t0, t1, t2] H) :=
  Below.trans (g6_flumelaw21_EngineNone_k W0 _ n t0 t1 t2 H) (callK_run (F := Tz.F) (prim := Tz.prim2) (fl := .no) (by kernel_rfl) g6_flumelaw21_EngineNone_F (by kernel_rfl))

/-! 17 flume.engine.New -/
def g17_engine_New_j1 (W0 : BaseF) (cf : CallF) (n : Nat) (t0 t3 t5 t7 t27 : AVal) (H : AHeap) : CallRes :=
 condK t27
 (pvK (aggO (fillA .leaf (AVal.cells (.agg [(.bool false), (.int .i64 0), (.int .i64 0)])) [])) fun t28x1 =>
 pvK (some (.ptr none)) fun t4x1 =>
 outK (xStore 3 t5 t28x1 H) CallRes.pan fun _ Hx1 =>
 pvK (some (.int .i64 1)) fun t6x1 =>
 resC (resL [some t4x1, xLoadN W0 3 t5 Hx1, some t6x1]) Hx1)
 (pvK (xFieldAddr 4 t3) fun t30x1 =>
 pvK (xLoadN W0 4 t30x1 H) fun t31x1 =>
 outK (callR (cf 56 [t31x1] H)) CallRes.pan fun t32x1 Hx2 =>
 pvK (some t32x1) fun t29x1 =>
 pvK (xExtract t29x1 0) fun t33x1 =>
 pvK (xExtract t29x1 1) fun t34x1 =>
 pvK (some t33x1) fun t9x1 =>
 pvK (some t34x1) fun t8x1 =>
 pvK (some t8x1) fun t35x1 =>
 pvK (negB true (eqNum t35x1 (.int .i64 0))) fun t36x1 =>
 condK t36x1
 (pvK (aggO (fillA .leaf (AVal.cells (.agg [(.bool false), (.int .i64 0), (.int .i64 0)])) [])) fun t37x1 =>
 pvK (some (.ptr none)) fun t4x2 =>
 outK (xStore 3 t5 t37x1 Hx2) CallRes.pan fun _ Hx3 =>
 pvK (some (.int .i64 1)) fun t6x2 =>
 resC (resL [some t4x2, xLoadN W0 3 t5 Hx3, some t6x2]) Hx3)
 (pvK (some t0) fun t39x1 =>
 pvK (xFieldAddr 0 t3) fun t40x1 =>
 pvK (xLoadN W0 2 t40x1 Hx2) fun t41x1 =>
 outK (callR (cf 57 [t39x1, t41x1] Hx2)) CallRes.pan fun t42x1 Hx4 =>
 pvK (some t42x1) fun t38x1 =>
 pvK (xExtract t38x1 0) fun t43x1 =>
 pvK (xExtract t38x1 1) fun t44x1 =>
 pvK (xExtract t38x1 2) fun t45x1 =>
 alK (xNew 34 (AVal.cells (.agg [(.bool false), (.int .i64 0), (.int .i64 0)]))) Hx4 fun t11x1 Hx5 =>
 pvK (some t43x1) fun t10x1 =>
 outK (xStore 3 t11x1 t44x1 Hx5) CallRes.pan fun _ Hx6 =>
 pvK (some t45x1) fun t8x2 =>
 pvK (some t8x2) fun t46x1 =>
 pvK (negB true (eqNum t46x1 (.int .i64 0))) fun t47x1 =>
 condK t47x1
 (pvK (aggO (fillA .leaf (AVal.cells (.agg [(.bool false), (.int .i64 0), (.int .i64 0)])) [])) fun t48x1 =>
 pvK (some t8x2) fun t49x1 =>
 pvK (some (.ptr none)) fun t4x3 =>
 outK (xStore 3 t5 t48x1 Hx6) CallRes.pan fun _ Hx7 =>
 pvK (some t49x1) fun t6x3 =>
 resC (resL [some t4x3, xLoadN W0 3 t5 Hx7, some t6x3]) Hx7)
 (outK (callR (cf 58 [(.float .f64 0)] Hx6)) CallRes.pan fun t51x1 Hx8 =>
 pvK (some t51x1) fun t50x1 =>
 pvK (xExtract t50x1 0) fun t52x1 =>
 pvK (xExtract t50x1 1) fun t53x1 =>
 pvK (some t52x1) fun t12x1 =>
 pvK (some t53x1) fun t13x1 =>
 pvK (xLoadN W0 8 t3 Hx8) fun t54x1 =>
 pvK (some t10x1) fun t55x1 =>
 pvK (some t7) fun t56x1 =>
 pvK (some t9x1) fun t57x1 =>
 pvK (some t12x1) fun t58x1 =>
 alK (xMkMap) Hx8 fun t59x1 Hx9 =>
 chkK ((sameV t54x1 (xLoadN W0 8 t3 Hx9) && true)) <|
 alK (xMkMap) Hx9 fun t60x1 Hx10 =>
 chkK ((sameV t54x1 (xLoadN W0 8 t3 Hx10) && true)) <|
 pvK (some t10x1) fun t61x1 =>
 pvK (xLoadN W0 3 t11x1 Hx10) fun t66x1 =>
 outK (callR (cf 59 [t61x1] Hx10)) CallRes.pan fun t62x1 Hx11 =>
 chkK ((sameV t66x1 (xLoadN W0 3 t11x1 Hx11) && (sameV t54x1 (xLoadN W0 8 t3 Hx11) && true))) <|
 pvK (xField1 1 t62x1) fun t63x1 =>
 pvK (aggO (fillA .leaf (AVal.cells (.agg [(.int .i64 0), (.int .i64 0), (.int .i64 0), (.int .i64 0), (.int .i64 0), (.int .i64 0), (.float .f64 0), (.float .f64 0), (.ptr none), (.ptr none), (.ptr none), (.ptr none), (.slice none 0 (.ex 0)), (.slice none 0 (.ex 0)), (.map none), (.map none), (.int .i64 0), (.ptr none), (.float .f64 0), (.slice none 0 (.ex 0)), (.int .i64 0), (.bool false), (.bool false), (.int .i64 0)])) [(0, 8, .c t54x1), (8, 1, .c t55x1), (9, 1, .c t56x1), (10, 1, .c t57x1), (11, 1, .c t58x1), (14, 1, .c t59x1), (15, 1, .c t60x1), (16, 1, .c t63x1)])) fun t64x1 =>
 alK (xNew 71 (AVal.cells t64x1)) Hx11 fun t65x1 Hx12 =>
 chkK ((sameV t66x1 (xLoadN W0 3 t11x1 Hx12) && (sameV t54x1 (xLoadN W0 8 t3 Hx12) && true))) <|
 pvK (some t65x1) fun t4x4 =>
 outK (xStore 3 t5 t66x1 Hx12) CallRes.pan fun _ Hx13 =>
 chkK (true) <|
 pvK (some (.int .i64 0)) fun t6x4 =>
 resC (resL [some t4x4, xLoadN W0 3 t5 Hx13, some t6x4]) Hx13)))

def g17_engine_New (W0 : BaseF) (cf : CallF) (n : Nat) (t0 t1 : AVal) (H : AHeap) : CallRes :=
 alK (xNew 30 (AVal.cells t1)) H fun t3 Hx1 =>
 pvK (some (.ptr none)) fun t4 =>
 alK (xNew 34 (AVal.cells (.agg [(.bool false), (.int .i64 0), (.int .i64 0)]))) Hx1 fun t5 Hx2 =>
 pvK (some (.int .i64 0)) fun t6 =>
 pvK (xFieldAddr 2 t3) fun t15 =>
 pvK (xLoad1 W0 t15 Hx2) fun t16 =>
 pvK (xFieldAddr 3 t3) fun t17 =>
 pvK (xLoad1 W0 t17 Hx2) fun t18 =>
 outK (callR (cf 55 [t16, t18] Hx2)) CallRes.pan fun t19 Hx3 =>
 pvK (some t19) fun t14 =>
 pvK (xExtract t14 0) fun t20 =>
 pvK (xExtract t14 1) fun t21 =>
 pvK (some t20) fun t7 =>
 pvK (some t21) fun t8 =>
 pvK (some t0) fun t22 =>
 pvK (negB false (eqPtr Hx3 t22 (.ptr none))) fun t23 =>
 pvK (some t23) fun t24 =>
 condK t24
 (pvK (xPick (.bool true) (.bool true) AVal.undef) fun _ =>
 g17_engine_New_j1 W0 cf n t0 t3 t5 t7 (.bool true) Hx3)
 (pvK (some t8) fun t25 =>
 pvK (negB true (eqNum t25 (.int .i64 0))) fun t26 =>
 pvK (xPick (.bool false) (.bool true) t26) fun t27x1 =>
 g17_engine_New_j1 W0 cf n t0 t3 t5 t7 t27x1 Hx3)

def g17_engine_New_c : ACode := match Tz.F 17 with | some fn => fn.body | none => .stop
theorem g17_engine_New_F : Tz.F 17 = some ⟨67, g17_engine_New_c, [.t (Path.of 4), .cellN (Path.of 5) 3, .t (Path.of 6)]⟩ := by kernel_rfl
def g17_engine_New_kr (W0 : BaseF) (cf : CallF) (n : Nat) : KN := fun T D H => leaveK (leaveA Tz.F W0 cf n D .ret H) fun H => resC (resA W0 T H [.t (Path.of 4), .cellN (Path.of 5) 3, .t (Path.of 6)]) H
def g17_engine_New_kp (W0 : BaseF) (cf : CallF) (n : Nat) : KP := fun v T D H => leaveK (leaveA Tz.F W0 cf n D (.pan v false) H) fun H => resC (resA W0 T H [.t (Path.of 4), .cellN (Path.of 5) 3, .t (Path.of 6)]) H
theorem g17_engine_New_k (W0 : BaseF) (cf : CallF) (n : Nat) (t0 t1 : AVal) (H : AHeap) : Below (g17_engine_New W0 cf n t0 t1 H) (codeK W0 cf n (g17_engine_New_kr W0 cf n) (g17_engine_New_kp W0 cf n) g17_engine_New_c .no (fun _ _ _ _ => .stuck) (g17_engine_New_kr W0 cf n) (frameOf [t0, t1]) [] H) := Below.of_eq (by kernel_rfl)
theorem g17_engine_New_ok (W0 : BaseF) (n : Nat) (t0 t1 : AVal) (H : AHeap) : Below (g17_engine_New W0 (acall Tz.F W0 Tz.prim2 n) n t0 t1 H) (acall Tz.F W0 Tz.prim2 (n + 1) 17 [t0, t1] H) :=
  Below.trans (g17_engine_New_k W0 _ n t0 t1 H) (callK_run (F := Tz.F) (prim := Tz.prim2) (fl := .no) (by kernel_rfl) g17_engine_New_F (by kernel_rfl))

/-! 55 flume.queue.New -/
def g55_queue_New_j1 (W0 : BaseF) (cf : CallF) (n : Nat) (t0 t1 t19 : AVal) (H : AHeap) : CallRes :=
 condK t19
 (pvK (some (.ptr none)) fun t4x1 =>
 pvK (some (.int .i64 1)) fun t5x1 =>
 .ret (.tuple [t4x1, t5x1]) H)
 (pvK (some t0) fun t20x1 =>
 pvK (some t1) fun t21x1 =>
 alK (xMkMap) H fun t22x1 Hx1 =>
 pvK (aggO (fillA .leaf (AVal.cells (.agg [(.int .i64 0), (.int .i64 0), (.int .i64 0), (.slice none 0 (.ex 0)), (.int .i64 0), (.int .i64 0), (.slice none 0 (.ex 0)), (.map none)])) [(0, 1, .c t20x1), (1, 1, .c t21x1), (7, 1, .c t22x1)])) fun t23x1 =>
 alK (xNew 228 (AVal.cells t23x1)) Hx1 fun t24x1 Hx2 =>
 pvK (some t24x1) fun t4x2 =>
 pvK (some (.int .i64 0)) fun t5x2 =>
 .ret (.tuple [t4x2, t5x2]) Hx2)

def g55_queue_New (W0 : BaseF) (cf : CallF) (n : Nat) (t0 t1 : AVal) (H : AHeap) : CallRes :=
 pvK (some (.ptr none)) fun t4 =>
 pvK (some (.int .i64 0)) fun t5 =>
 pvK (some t0) fun t6 =>
 pvK (binA .lss t6 (.int .i64 1)) fun t7 =>
 pvK (some t7) fun t8 =>
 condK t8
 (pvK (xPick (.bool true) (.bool true) AVal.undef) fun _ =>
 pvK (some (.bool true)) fun _ =>
 pvK (xPick (.bool true) (.bool true) AVal.undef) fun _ =>
 pvK (some (.bool true)) fun _ =>
 pvK (xPick (.bool true) (.bool true) AVal.undef) fun _ =>
 g55_queue_New_j1 W0 cf n t0 t1 (.bool true) H)
 (pvK (some t0) fun t9 =>
 pvK (binA .gtr t9 (.int .i64 1024)) fun t10 =>
 pvK (xPick (.bool false) (.bool true) t10) fun t11x1 =>
 pvK (some t11x1) fun t12x1 =>
 condK t12x1
 (pvK (xPick (.bool true) (.bool true) AVal.undef) fun _ =>
 pvK (some (.bool true)) fun _ =>
 pvK (xPick (.bool true) (.bool true) AVal.undef) fun _ =>
 g55_queue_New_j1 W0 cf n t0 t1 (.bool true) H)
 (pvK (some t1) fun t13 =>
 pvK (binA .lss t13 (.int .i64 1)) fun t14 =>
 pvK (xPick (.bool false) (.bool true) t14) fun t15x2 =>
 pvK (some t15x2) fun t16x2 =>
 condK t16x2
 (pvK (xPick (.bool true) (.bool true) AVal.undef) fun _ =>
 g55_queue_New_j1 W0 cf n t0 t1 (.bool true) H)
 (pvK (some t1) fun t17 =>
 pvK (binA .gtr t17 (.int .i64 16777216)) fun t18 =>
 pvK (xPick (.bool false) (.bool true) t18) fun t19x3 =>
 g55_queue_New_j1 W0 cf n t0 t1 t19x3 H)))

def g55_queue_New_c : ACode := match Tz.F 55 with | some fn => fn.body | none => .stop
theorem g55_queue_New_F : Tz.F 55 = some ⟨25, g55_queue_New_c, [.t (Path.of 4), .t (Path.of 5)]⟩ := by kernel_rfl
def g55_queue_New_kr (W0 : BaseF) (cf : CallF) (n : Nat) : KN := fun T D H => leaveK (leaveA Tz.F W0 cf n D .ret H) fun H => resC (resA W0 T H [.t (Path.of 4), .t (Path.of 5)]) H
def g55_queue_New_kp (W0 : BaseF) (cf : CallF) (n : Nat) : KP := fun v T D H => leaveK (leaveA Tz.F W0 cf n D (.pan v false) H) fun H => resC (resA W0 T H [.t (Path.of 4), .t (Path.of 5)]) H
theorem g55_queue_New_k (W0 : BaseF) (cf : CallF) (n : Nat) (t0 t1 : AVal) (H : AHeap) : Below (g55_queue_New W0 cf n t0 t1 H) (codeK W0 cf n (g55_queue_New_kr W0 cf n) (g55_queue_New_kp W0 cf n) g55_queue_New_c .no (fun _ _ _ _ => .stuck) (g55_queue_New_kr W0 cf n) (frameOf [t0, t1]) [] H) := Below.of_eq (by kernel_rfl)
theorem g55_queue_New_ok (W0 : BaseF) (n : Nat) (t0 t1 : AVal) (H : AHeap) : Below (g55_queue_New W0 (acall Tz.F W0 Tz.prim2 n) n t0 t1 H) (acall Tz.F W0 Tz.prim2 (n + 1) 55 [t0, t1] H) :=
  Below.trans (g55_queue_New_k W0 _ n t0 t1 H) (callK_run (F := Tz.F) (prim := Tz.prim2) (fl := .no) (by kernel_rfl) g55_queue_New_F (by kernel_rfl))

/-! 19 (*flume.engine.Engine).Begin -/
def g19_engine_Engine_Begin (W0 : BaseF) (cf : CallF) (n : Nat) (t0 t1 : AVal) (H : AHeap) : CallRes :=
 alK (xNew 43 (AVal.cells t1)) H fun t3 Hx1 =>
 pvK (some (.int .i64 0)) fun t4 =>
 pvK (some (.int .i64 0)) fun t5 =>
 pvK (some t0) fun t9 =>
 outK (callR (cf 60 [t9] Hx1)) CallRes.pan fun t10 Hx2 =>
 pvK (unA .not t10) fun t11 =>
 condK t11
 (pvK (some (.int .i64 0)) fun t4x1 =>
 pvK (some (.int .i64 1)) fun t5x1 =>
 .ret (.tuple [t4x1, t5x1]) Hx2)
 (pvK (xLoadN W0 3 t3 Hx2) fun t13 =>
 outK (callR (cf 61 [t13] Hx2)) CallRes.pan fun t14 Hx3 =>
 pvK (some t14) fun t12 =>
 pvK (xExtract t12 0) fun t15 =>
 pvK (xExtract t12 1) fun t16 =>
 pvK (some t15) fun t6 =>
 pvK (some t16) fun t7 =>
 pvK (some t7) fun t18 =>
 pvK (unA .not t18) fun t19 =>
 pvK (some t19) fun t17 =>
 condK t17
 (pvK (some (.int .i64 0)) fun t4x2 =>
 pvK (some (.int .i64 62)) fun t5x2 =>
 .ret (.tuple [t4x2, t5x2]) Hx3)
 (pvK (some t6) fun t21 =>
 pvK (unA .not t21) fun t22 =>
 pvK (some t22) fun t20 =>
 condK t20
 (pvK (some (.int .i64 0)) fun t4x3 =>
 pvK (some (.int .i64 1)) fun t5x3 =>
 .ret (.tuple [t4x3, t5x3]) Hx3)
 (pvK (some t0) fun t24 =>
 pvK (xNilCheck [] t24) fun t25 =>
 pvK (xFieldAddr 13 t25) fun t26 =>
 pvK (xLoad1 W0 t26 Hx3) fun t27 =>
 pvK (xLenSl t27) fun t28 =>
 pvK (binA .geq t28 (.int .i64 4096)) fun t29 =>
 pvK (some t29) fun t23 =>
 condK t23
 (pvK (some (.int .i64 0)) fun t4x4 =>
 pvK (some (.int .i64 9)) fun t5x4 =>
 .ret (.tuple [t4x4, t5x4]) Hx3)
 (pvK (xFieldAddr 2 t3) fun t30 =>
 pvK (xLoad1 W0 t30 Hx3) fun t31 =>
 outK (pv2 (appendA W0 Hx3 5 1 1 (.slice none 0 (.ex 0)) t31)) CallRes.pan fun t32 Hx4 =>
 pvK (xFieldAddr 2 t3) fun t33 =>
 outK (xStore 1 t33 t32 Hx4) CallRes.pan fun _ Hx5 =>
 pvK (some t0) fun t34 =>
 pvK (xNilCheck [] t34) fun t35 =>
 pvK (xFieldAddr 12 t35) fun t36 =>
 pvK (xLoad1 W0 t36 Hx5) fun t37 =>
 pvK (xLenSl t37) fun t38 =>
 pvK (binA .add t38 (.int .i64 1)) fun t39 =>
 pvK (xLoadN W0 3 t3 Hx5) fun t40 =>
 outK (callR (cf 62 [] Hx5)) CallRes.pan fun t41 Hx6 =>
 chkK ((sameV t40 (xLoadN W0 3 t3 Hx6) && (sameV t37 (xLoad1 W0 t36 Hx6) && true))) <|
 pvK (aggO (fillA .leaf (AVal.cells (.agg [(.int .i64 0), (.int .i64 0), (.int .i64 0), (.slice none 0 (.ex 0)), (.int .i64 0), (.bool false), (.int .i64 0), .nilFunc, .nilFunc, (.int .i64 0), .nilFunc, .nilFunc, (.int .i64 0), (.int .i64 0), (.slice none 0 (.ex 0))])) [(0, 1, .c t39), (1, 3, .c t40), (6, 3, .c t41)])) fun t42 =>
 alK (xNew 169 (AVal.cells t42)) Hx6 fun t43 Hx7 =>
 chkK ((sameV t40 (xLoadN W0 3 t3 Hx7) && (sameV t37 (xLoad1 W0 t36 Hx7) && true))) <|
 pvK (some t43) fun t8 =>
 pvK (some t0) fun t44 =>
 pvK (some t0) fun t45 =>
 pvK (some t0) fun t46 =>
 pvK (xNilCheck [] t46) fun t47 =>
 pvK (xFieldAddr 12 t47) fun t48 =>
 pvK (xLoad1 W0 t48 Hx7) fun t49 =>
 pvK (some t8) fun t50 =>
 alK (xBuildSl 68 1 (fillA .leaf (repl (AVal.cells (.ptr none)) 1) [(0, 1, .c t50)])) Hx7 fun t51 Hx8 =>
 chkK ((sameV t49 (xLoad1 W0 t48 Hx8) && true)) <|
 pvK (some t0) fun t53 =>
 pvK (xNilCheck [] t53) fun t54 =>
 pvK (xFieldAddr 13 t54) fun t55 =>
 pvK (xLoad1 W0 t55 Hx8) fun t56 =>
 pvK (some t8) fun t57 =>
 alK (xBuildSl 68 1 (fillA .leaf (repl (AVal.cells (.ptr none)) 1) [(0, 1, .c t57)])) Hx8 fun t58 Hx9 =>
 chkK ((sameV t56 (xLoad1 W0 t55 Hx9) && (sameV t49 (xLoad1 W0 t48 Hx9) && true))) <|
 outK (pv2 (appendA W0 Hx9 68 1 8 t49 t51)) CallRes.pan fun t52 Hx10 =>
 chkK ((sameV t56 (xLoad1 W0 t55 Hx10) && true)) <|
 outK (pv2 (appendA W0 Hx10 68 1 8 t56 t58)) CallRes.pan fun t59 Hx11 =>
 chkK (true) <|
 pvK (xNilCheck [] t44) fun t60 =>
 pvK (xFieldAddr 12 t60) fun t61 =>
 outK (xStore 1 t61 t52 Hx11) CallRes.pan fun _ Hx12 =>
 chkK (true) <|
 pvK (xNilCheck [] t45) fun t62 =>
 pvK (xFieldAddr 13 t62) fun t63 =>
 outK (xStore 1 t63 t59 Hx12) CallRes.pan fun _ Hx13 =>
 chkK (true) <|
 pvK (some t8) fun t64 =>
 pvK (xNilCheck [] t64) fun t65 =>
 pvK (xFieldAddr 0 t65) fun t66 =>
 pvK (xLoad1 W0 t66 Hx13) fun t67 =>
 pvK (some t67) fun t4x5 =>
 pvK (some (.int .i64 0)) fun t5x5 =>
 .ret (.tuple [t4x5, t5x5]) Hx13))))

def g19_engine_Engine_Begin_c : ACode := match Tz.F 19 with | some fn => fn.body | none => .stop
theorem g19_engine_Engine_Begin_F : Tz.F 19 = some ⟨68, g19_engine_Engine_Begin_c, [.t (Path.of 4), .t (Path.of 5)]⟩ := by kernel_rfl
def g19_engine_Engine_Begin_kr (W0 : BaseF) (cf : CallF) (n : Nat) : KN := fun T D H => leaveK (leaveA Tz.F W0 cf n D .ret H) fun H => resC (resA W0 T H [.t (Path.of 4), .t (Path.of 5)]) H
def g19_engine_Engine_Begin_kp (W0 : BaseF) (cf : CallF) (n : Nat) : KP := fun v T D H => leaveK (leaveA Tz.F W0 cf n D (.pan v false) H) fun H => resC (resA W0 T H [.t (Path.of 4), .t (Path.of 5)]) H
theorem g19_engine_Engine_Begin_k (W0 : BaseF) (cf : CallF) (n : Nat) (t0 t1 : AVal) (H : AHeap) : Below (g19_engine_Engine_Begin W0 cf n t0 t1 H) (codeK W0 cf n (g19_engine_Engine_Begin_kr W0 cf n) (g19_engine_Engine_Begin_kp W0 cf n) g19_engine_Engine_Begin_c .no (fun _ _ _ _ => .stuck) (g19_engine_Engine_Begin_kr W0 cf n) (frameOf [t0, t1]) [] H) := Below.of_eq (by kernel_rfl)
theorem g19_engine_Engine_Begin_ok (W0 : BaseF) (n : Nat) (t0 t1 : AVal) (H : AHeap) : Below (g19_engine_Engine_Begin W0 (acall Tz.F W0 Tz.prim2 n) n t0 t1 H) (acall Tz.F W0 Tz.prim2 (n + 1) 19 [t0, t1] H) :=
  Below.trans (g19_engine_Engine_Begin_k W0 _ n t0 t1 H) (callK_run (F := Tz.F) (prim := Tz.prim2) (fl := .no) (by kernel_rfl) g19_engine_Engine_Begin_F (by kernel_rfl))

/-! 23 (*flume.engine.Engine).Result -/
def g23_engine_Engine_Result_j1 (W0 : BaseF) (cf : CallF) (n : Nat) (t4 t6 t20 : AVal) (H : AHeap) : CallRes :=
 condK t20
 (pvK (aggO (fillA .leaf (AVal.cells (.agg [(.int .i64 0), (.int .i64 0), (.slice none 0 (.ex 0))])) [])) fun t21x1 =>
 outK (xStore 3 t4 t21x1 H) CallRes.pan fun _ Hx1 =>
 pvK (some (.bool false)) fun t5x1 =>
 resC (resL [xLoadN W0 3 t4 Hx1, some t5x1]) Hx1)
 (pvK (some t6) fun t22x1 =>
 pvK (xNilCheck [] t22x1) fun t23x1 =>
 pvK (xFieldAddr 12 t23x1) fun t24x1 =>
 pvK (xLoadN W0 3 t24x1 H) fun t25x1 =>
 alK (xNew 51 (AVal.cells (.agg [(.int .i64 0), (.int .i64 0), (.slice none 0 (.ex 0))]))) H fun t7x1 Hx2 =>
 outK (xStore 3 t7x1 t25x1 Hx2) CallRes.pan fun _ Hx3 =>
 pvK (xFieldAddr 2 t7x1) fun t26x1 =>
 pvK (xLoad1 W0 t26x1 Hx3) fun t27x1 =>
 outK (pv2 (appendA W0 Hx3 5 1 1 (.slice none 0 (.ex 0)) t27x1)) CallRes.pan fun t28x1 Hx4 =>
 pvK (xFieldAddr 2 t7x1) fun t29x1 =>
 outK (xStore 1 t29x1 t28x1 Hx4) CallRes.pan fun _ Hx5 =>
 pvK (xLoadN W0 3 t7x1 Hx5) fun t30x1 =>
 outK (xStore 3 t4 t30x1 Hx5) CallRes.pan fun _ Hx6 =>
 pvK (some (.bool true)) fun t5x2 =>
 resC (resL [xLoadN W0 3 t4 Hx6, some t5x2]) Hx6)

def g23_engine_Engine_Result (W0 : BaseF) (cf : CallF) (n : Nat) (t0 t1 : AVal) (H : AHeap) : CallRes :=
 alK (xNew 51 (AVal.cells (.agg [(.int .i64 0), (.int .i64 0), (.slice none 0 (.ex 0))]))) H fun t4 Hx1 =>
 pvK (some (.bool false)) fun t5 =>
 pvK (some t0) fun t8 =>
 pvK (some t1) fun t9 =>
 outK (callR (cf 63 [t8, t9] Hx1)) CallRes.pan fun t10 Hx2 =>
 pvK (some t10) fun t6 =>
 pvK (some t6) fun t11 =>
 pvK (negB false (eqPtr Hx2 t11 (.ptr none))) fun t12 =>
 pvK (some t12) fun t13 =>
 condK t13
 (pvK (xPick (.bool true) (.bool true) AVal.undef) fun _ =>
 g23_engine_Engine_Result_j1 W0 cf n t4 t6 (.bool true) Hx2)
 (pvK (some t6) fun t14 =>
 pvK (xNilCheck [] t14) fun t15 =>
 pvK (xFieldAddr 6 t15) fun t16 =>
 pvK (xFieldAddr 0 t16) fun t17 =>
 pvK (xLoad1 W0 t17 Hx2) fun t18 =>
 pvK (negB true (eqNum t18 (.int .i64 9))) fun t19 =>
 pvK (xPick (.bool false) (.bool true) t19) fun t20x1 =>
 g23_engine_Engine_Result_j1 W0 cf n t4 t6 t20x1 Hx2)

def g23_engine_Engine_Result_c : ACode := match Tz.F 23 with | some fn => fn.body | none => .stop
theorem g23_engine_Engine_Result_F : Tz.F 23 = some ⟨31, g23_engine_Engine_Result_c, [.cellN (Path.of 4) 3, .t (Path.of 5)]⟩ := by kernel_rfl
def g23_engine_Engine_Result_kr (W0 : BaseF) (cf : CallF) (n : Nat) : KN := fun T D H => leaveK (leaveA Tz.F W0 cf n D .ret H) fun H => resC (resA W0 T H [.cellN (Path.of 4) 3, .t (Path.of 5)]) H
def g23_engine_Engine_Result_kp (W0 : BaseF) (cf : CallF) (n : Nat) : KP := fun v T D H => leaveK (leaveA Tz.F W0 cf n D (.pan v false) H) fun H => resC (resA W0 T H [.cellN (Path.of 4) 3, .t (Path.of 5)]) H
theorem g23_engine_Engine_Result_k (W0 : BaseF) (cf : CallF) (n : Nat) (t0 t1 : AVal) (H : AHeap) : Below (g23_engine_Engine_Result W0 cf n t0 t1 H) (codeK W0 cf n (g23_engine_Engine_Result_kr W0 cf n) (g23_engine_Engine_Result_kp W0 cf n) g23_engine_Engine_Result_c .no (fun _ _ _ _ => .stuck) (g23_engine_Engine_Result_kr W0 cf n) (frameOf [t0, t1]) [] H) := Below.of_eq (by kernel_rfl)
theorem g23_engine_Engine_Result_ok (W0 : BaseF) (n : Nat) (t0 t1 : AVal) (H : AHeap) : Below (g23_engine_Engine_Result W0 (acall Tz.F W0 Tz.prim2 n) n t0 t1 H) (acall Tz.F W0 Tz.prim2 (n + 1) 23 [t0, t1] H) :=
  Below.trans (g23_engine_Engine_Result_k W0 _ n t0 t1 H) (callK_run (F := Tz.F) (prim := Tz.prim2) (fl := .no) (by kernel_rfl) g23_engine_Engine_Result_F (by kernel_rfl))

/-! 20 (*flume.engine.Engine).Ready -/
def g20_engine_Engine_Ready_r1 (W0 : BaseF) (cf : CallF) (n : Nat) (t3 : AVal) (H : AHeap) : CallRes :=
 pvK (some t3) fun t34x1 =>
 pvK (some t34x1) fun t2x1 =>
 .ret t2x1 H

def g20_engine_Engine_Ready_l1 (W0 : BaseF) (cf : CallF) (n : Nat) (kx0 : AVal → AHeap → CallRes) (m : Nat) : AVal → AVal → AVal → AVal → AVal → AHeap → CallRes :=
  Nat.rec (motive := fun _ => AVal → AVal → AVal → AVal → AVal → AHeap → CallRes) (fun _ _ _ _ _ _ => .stuck)
  (fun _ ih t0 t3 t12 t13 t14 H =>
 pvK (binA .lss t14 t13) fun t15x1 =>
 condK t15x1
 (let j1 := fun (t3x1 : AVal) (Hx1 : AHeap) => (pvK (binA .add t14 (.int .i64 1)) fun t33x1 =>
 pvK (some t33x1) fun t14x1 =>
 ih t0 t3x1 t12 t13 t14x1 Hx1 : CallRes)
 pvK (xIdxSl 1 t12 t14) fun t16x3 =>
 pvK (xLoad1 W0 t16x3 H) fun t17x3 =>
 pvK (some t17x3) fun t5x3 =>
 pvK (some t5x3) fun t18x3 =>
 pvK (xNilCheck [] t18x3) fun t19x3 =>
 pvK (xFieldAddr 6 t19x3) fun t20x3 =>
 pvK (xFieldAddr 1 t20x3) fun t21x3 =>
 pvK (xLoad1 W0 t21x3 H) fun t22x3 =>
 pvK (some t0) fun t23x3 =>
 pvK (some t5x3) fun t24x3 =>
 outK (callV cf t22x3 [t23x3, t24x3] H) CallRes.pan fun t25x3 Hx3 =>
 condK t25x3
 (pvK (some t3) fun t26x3 =>
 pvK (some t5x3) fun t27x3 =>
 pvK (xNilCheck [] t27x3) fun t28x3 =>
 pvK (xFieldAddr 0 t28x3) fun t29x3 =>
 pvK (xLoad1 W0 t29x3 Hx3) fun t30x3 =>
 alK (xBuildSl 3 1 (fillA .leaf (repl (AVal.cells (.int .i64 0)) 1) [(0, 1, .c t30x3)])) Hx3 fun t31x3 Hx4 =>
 outK (pv2 (appendA W0 Hx4 3 1 8 t26x3 t31x3)) CallRes.pan fun t32x3 Hx5 =>
 pvK (some t32x3) fun t3x3 =>
 j1 t3x3 Hx5)
 (j1 t3 Hx3))
 (kx0 t3 H)) m

theorem g20_engine_Engine_Ready_l1_succ (W0 : BaseF) (cf : CallF) (n : Nat) (kx0 : AVal → AHeap → CallRes) (m : Nat) (t0 t3 t12 t13 t14 : AVal) (H : AHeap) : g20_engine_Engine_Ready_l1 W0 cf n kx0 (m + 1) t0 t3 t12 t13 t14 H = (
 pvK (binA .lss t14 t13) fun t15x1 =>
 condK t15x1
 (let j1 := fun (t3x1 : AVal) (Hx1 : AHeap) => (pvK (binA .add t14 (.int .i64 1)) fun t33x1 =>
 pvK (some t33x1) fun t14x1 =>
 g20_engine_Engine_Ready_l1 W0 cf n kx0 m t0 t3x1 t12 t13 t14x1 Hx1 : CallRes)
 pvK (xIdxSl 1 t12 t14) fun t16x3 =>
 pvK (xLoad1 W0 t16x3 H) fun t17x3 =>
 pvK (some t17x3) fun t5x3 =>
 pvK (some t5x3) fun t18x3 =>
 pvK (xNilCheck [] t18x3) fun t19x3 =>
 pvK (xFieldAddr 6 t19x3) fun t20x3 =>
 pvK (xFieldAddr 1 t20x3) fun t21x3 =>
 pvK (xLoad1 W0 t21x3 H) fun t22x3 =>
 pvK (some t0) fun t23x3 =>
 pvK (some t5x3) fun t24x3 =>
 outK (callV cf t22x3 [t23x3, t24x3] H) CallRes.pan fun t25x3 Hx3 =>
 condK t25x3
 (pvK (some t3) fun t26x3 =>
 pvK (some t5x3) fun t27x3 =>
 pvK (xNilCheck [] t27x3) fun t28x3 =>
 pvK (xFieldAddr 0 t28x3) fun t29x3 =>
 pvK (xLoad1 W0 t29x3 Hx3) fun t30x3 =>
 alK (xBuildSl 3 1 (fillA .leaf (repl (AVal.cells (.int .i64 0)) 1) [(0, 1, .c t30x3)])) Hx3 fun t31x3 Hx4 =>
 outK (pv2 (appendA W0 Hx4 3 1 8 t26x3 t31x3)) CallRes.pan fun t32x3 Hx5 =>
 pvK (some t32x3) fun t3x3 =>
 j1 t3x3 Hx5)
 (j1 t3 Hx3))
 (kx0 t3 H)) := rfl

def g20_engine_Engine_Ready (W0 : BaseF) (cf : CallF) (n : Nat) (t0 : AVal) (H : AHeap) : CallRes :=
 pvK (some (.slice none 0 (.ex 0))) fun t2 =>
 pvK (some t0) fun t6 =>
 outK (callR (cf 60 [t6] H)) CallRes.pan fun t7 Hx1 =>
 pvK (unA .not t7) fun t8 =>
 condK t8
 (pvK (some (.slice none 0 (.ex 0))) fun t2x1 =>
 .ret t2x1 Hx1)
 (pvK (some (.slice none 0 (.ex 0))) fun t3 =>
 pvK (some t0) fun t9 =>
 pvK (xNilCheck [] t9) fun t10 =>
 pvK (xFieldAddr 13 t10) fun t11 =>
 pvK (xLoad1 W0 t11 Hx1) fun t12 =>
 pvK (xLenSl t12) fun t13 =>
 pvK (some (.int .i64 0)) fun t14 =>
 g20_engine_Engine_Ready_l1 W0 cf n (fun (t3x1 : AVal) (Hx2 : AHeap) => (g20_engine_Engine_Ready_r1 W0 cf n t3x1 Hx2 : CallRes)) n t0 t3 t12 t13 t14 Hx1)

def g20_engine_Engine_Ready_c : ACode := match Tz.F 20 with | some fn => fn.body | none => .stop
theorem g20_engine_Engine_Ready_F : Tz.F 20 = some ⟨35, g20_engine_Engine_Ready_c, [.t (Path.of 2)]⟩ := by kernel_rfl
def g20_engine_Engine_Ready_kr (W0 : BaseF) (cf : CallF) (n : Nat) : KN := fun T D H => leaveK (leaveA Tz.F W0 cf n D .ret H) fun H => resC (resA W0 T H [.t (Path.of 2)]) H
def g20_engine_Engine_Ready_kp (W0 : BaseF) (cf : CallF) (n : Nat) : KP := fun v T D H => leaveK (leaveA Tz.F W0 cf n D (.pan v false) H) fun H => resC (resA W0 T H [.t (Path.of 2)]) H
theorem g20_engine_Engine_Ready_l1_ok (W0 : BaseF) (cf : CallF) (n : Nat) (kX : Nat → KN) (kx0 : AVal → AHeap → CallRes) (h0_ : ∀ T H, Below (kx0 (tt T 3) H) (kX 0 T [] H)) : ∀ m T H, Below (g20_engine_Engine_Ready_l1 W0 cf n kx0 m (tt T 0) (tt T 3) (tt T 12) (tt T 13) (tt T 14) H) (loopK (codeK W0 cf n (g20_engine_Engine_Ready_kr W0 cf n) (g20_engine_Engine_Ready_kp W0 cf n) (((((((g20_engine_Engine_Ready_c).sb).sb).sb).sa).sb).sa).sa .no kX) m T [] H)
  := by
  intro m
  induction m with
  | zero => intro T H; exact Below.stuck _
  | succ m ih =>
    have h7 : ∀ T H, Below (pvK (binA .lss (tt T 14) (tt T 13)) fun t15 =>
 condK t15
 (let j2 := fun (t3x8 : AVal) (Hx9 : AHeap) => (pvK (binA .add (tt T 14) (.int .i64 1)) fun t33 =>
 pvK (some t33) fun t14x4 =>
 g20_engine_Engine_Ready_l1 W0 cf n kx0 m (tt T 0) t3x8 (tt T 12) (tt T 13) t14x4 Hx9 : CallRes)
 pvK (xIdxSl 1 (tt T 12) (tt T 14)) fun t16x2 =>
 pvK (xLoad1 W0 t16x2 H) fun t17x2 =>
 pvK (some t17x2) fun t5x2 =>
 pvK (some t5x2) fun t18x2 =>
 pvK (xNilCheck [] t18x2) fun t19x2 =>
 pvK (xFieldAddr 6 t19x2) fun t20x2 =>
 pvK (xFieldAddr 1 t20x2) fun t21x2 =>
 pvK (xLoad1 W0 t21x2 H) fun t22x2 =>
 pvK (some (tt T 0)) fun t23x2 =>
 pvK (some t5x2) fun t24x2 =>
 outK (callV cf t22x2 [t23x2, t24x2] H) CallRes.pan fun t25x2 Hx11 =>
 condK t25x2
 (pvK (some (tt T 3)) fun t26x2 =>
 pvK (some t5x2) fun t27x2 =>
 pvK (xNilCheck [] t27x2) fun t28x2 =>
 pvK (xFieldAddr 0 t28x2) fun t29x2 =>
 pvK (xLoad1 W0 t29x2 Hx11) fun t30x2 =>
 alK (xBuildSl 3 1 (fillA .leaf (repl (AVal.cells (.int .i64 0)) 1) [(0, 1, .c t30x2)])) Hx11 fun t31x2 Hx12 =>
 outK (pv2 (appendA W0 Hx12 3 1 8 t26x2 t31x2)) CallRes.pan fun t32x2 Hx13 =>
 pvK (some t32x2) fun t3x10 =>
 j2 t3x10 Hx13)
 (j2 (tt T 3) Hx11))
 (kx0 (tt T 3) H)) (codeK W0 cf n (g20_engine_Engine_Ready_kr W0 cf n) (g20_engine_Engine_Ready_kp W0 cf n) (((((((g20_engine_Engine_Ready_c).sb).sb).sb).sa).sb).sa).sa .no (fun i T D H => (bif Nat.beq i 0 then (kx0 (tt T 3) H : CallRes) else CallRes.stuck : CallRes)) (fun T D H => (g20_engine_Engine_Ready_l1 W0 cf n kx0 m (tt T 0) (tt T 3) (tt T 12) (tt T 13) (tt T 14) H : CallRes)) T [] H) := fun T H => Below.of_eq (by kernel_rfl)
    intro T H
    refine Below.conv (Below.trans (h7 T H) (codeK_mono _ (kX' := kX) (fun i T H => ?_) ih T H)) (g20_engine_Engine_Ready_l1_succ W0 cf n kx0 m (tt T 0) (tt T 3) (tt T 12) (tt T 13) (tt T 14) H) (loopK_succ _ _ _ _ _)
    try dsimp only
    cases q0 : Nat.beq i 0 with
    | true => rw [Nat.eq_of_beq_eq_true q0]; exact h0_ T H
    | false =>
      exact Below.stuck _

theorem g20_engine_Engine_Ready_k (W0 : BaseF) (cf : CallF) (n : Nat) (t0 : AVal) (H : AHeap) : Below (g20_engine_Engine_Ready W0 cf n t0 H) (codeK W0 cf n (g20_engine_Engine_Ready_kr W0 cf n) (g20_engine_Engine_Ready_kp W0 cf n) g20_engine_Engine_Ready_c .no (fun _ _ _ _ => .stuck) (g20_engine_Engine_Ready_kr W0 cf n) (frameOf [t0]) [] H) := by
  have h3 : ∀ T H, Below (pvK (some (tt T 3)) fun t34 =>
 pvK (some t34) fun t2x4 =>
 .ret t2x4 H) (codeK W0 cf n (g20_engine_Engine_Ready_kr W0 cf n) (g20_engine_Engine_Ready_kp W0 cf n) ((((g20_engine_Engine_Ready_c).sb).sb).sb).sb .no (fun i T D H => (CallRes.stuck : CallRes)) (fun T D H => (.ret (tt T 2) H : CallRes)) T [] H) := fun T H => Below.of_eq (by kernel_rfl)
  have h6 : ∀ T H, Below (g20_engine_Engine_Ready_l1 W0 cf n (fun (t3x7 : AVal) (Hx8 : AHeap) => (g20_engine_Engine_Ready_r1 W0 cf n t3x7 Hx8 : CallRes)) n (tt T 0) (tt T 3) (tt T 12) (tt T 13) (tt T 14) H) (codeK W0 cf n (g20_engine_Engine_Ready_kr W0 cf n) (g20_engine_Engine_Ready_kp W0 cf n) ((((((g20_engine_Engine_Ready_c).sb).sb).sb).sa).sb).sa .no (fun i T D H => (bif Nat.beq i 0 then (g20_engine_Engine_Ready_r1 W0 cf n (tt T 3) H : CallRes) else CallRes.stuck : CallRes)) (fun T D H => (g20_engine_Engine_Ready_r1 W0 cf n (tt T 3) H : CallRes)) T [] H) := fun T H => Below.conv (g20_engine_Engine_Ready_l1_ok W0 cf n (fun i T D H => (bif Nat.beq i 0 then (g20_engine_Engine_Ready_r1 W0 cf n (tt T 3) H : CallRes) else CallRes.stuck : CallRes)) (fun (t3x11 : AVal) (Hx14 : AHeap) => (g20_engine_Engine_Ready_r1 W0 cf n t3x11 Hx14 : CallRes)) (fun T H => Below.of_eq (by kernel_rfl)) n T H) (by kernel_rfl) (by kernel_rfl)
  have h5 : ∀ T H, Below (g20_engine_Engine_Ready_l1 W0 cf n (fun (t3x6 : AVal) (Hx7 : AHeap) => (g20_engine_Engine_Ready_r1 W0 cf n t3x6 Hx7 : CallRes)) n (tt T 0) (tt T 3) (tt T 12) (tt T 13) (tt T 14) H) (codeK W0 cf n (g20_engine_Engine_Ready_kr W0 cf n) (g20_engine_Engine_Ready_kp W0 cf n) (((((g20_engine_Engine_Ready_c).sb).sb).sb).sa).sb .no (fun i T D H => (CallRes.stuck : CallRes)) (fun T D H => (g20_engine_Engine_Ready_r1 W0 cf n (tt T 3) H : CallRes)) T [] H) := fun T H => Below.conv (h6 T H) (by kernel_rfl) (by kernel_rfl)
  have h8 : ∀ T H, Below (pvK (some (tt T 0)) fun t9x4 =>
 pvK (xNilCheck [] t9x4) fun t10x4 =>
 pvK (xFieldAddr 13 t10x4) fun t11x4 =>
 pvK (xLoad1 W0 t11x4 H) fun t12x4 =>
 pvK (xLenSl t12x4) fun t13x4 =>
 pvK (some (.int .i64 0)) fun t14x5 =>
 g20_engine_Engine_Ready_l1 W0 cf n (fun (t3x13 : AVal) (Hx16 : AHeap) => (g20_engine_Engine_Ready_r1 W0 cf n t3x13 Hx16 : CallRes)) n (tt T 0) (tt T 3) t12x4 t13x4 t14x5 H) ((fun T D H => codeK W0 cf n (g20_engine_Engine_Ready_kr W0 cf n) (g20_engine_Engine_Ready_kp W0 cf n) (((((g20_engine_Engine_Ready_c).sb).sb).sb).sa).sa .no (fun i T D H => (CallRes.stuck : CallRes)) (fun T D H => (g20_engine_Engine_Ready_l1 W0 cf n (fun (t3x12 : AVal) (Hx15 : AHeap) => (g20_engine_Engine_Ready_r1 W0 cf n t3x12 Hx15 : CallRes)) n (tt T 0) (tt T 3) (tt T 12) (tt T 13) (tt T 14) H : CallRes)) T D H) T [] H) := fun T H => Below.of_eq (by kernel_rfl)
  have h4 : ∀ T H, Below (pvK (some (tt T 0)) fun t9x3 =>
 pvK (xNilCheck [] t9x3) fun t10x3 =>
 pvK (xFieldAddr 13 t10x3) fun t11x3 =>
 pvK (xLoad1 W0 t11x3 H) fun t12x3 =>
 pvK (xLenSl t12x3) fun t13x3 =>
 pvK (some (.int .i64 0)) fun t14x3 =>
 g20_engine_Engine_Ready_l1 W0 cf n (fun (t3x5 : AVal) (Hx6 : AHeap) => (g20_engine_Engine_Ready_r1 W0 cf n t3x5 Hx6 : CallRes)) n (tt T 0) (tt T 3) t12x3 t13x3 t14x3 H) (codeK W0 cf n (g20_engine_Engine_Ready_kr W0 cf n) (g20_engine_Engine_Ready_kp W0 cf n) ((((g20_engine_Engine_Ready_c).sb).sb).sb).sa .no (fun i T D H => (CallRes.stuck : CallRes)) (fun T D H => (g20_engine_Engine_Ready_r1 W0 cf n (tt T 3) H : CallRes)) T [] H) := fun T H => Below.conv (Below.trans (h8 T H) ((fun T H => codeK_mono (((((g20_engine_Engine_Ready_c).sb).sb).sb).sa).sa (fun _ _ _ => Below.refl _) h5 T H) T H)) (by kernel_rfl) (by kernel_rfl)
  have h2 : ∀ T H, Below (pvK (some (tt T 0)) fun t9x2 =>
 pvK (xNilCheck [] t9x2) fun t10x2 =>
 pvK (xFieldAddr 13 t10x2) fun t11x2 =>
 pvK (xLoad1 W0 t11x2 H) fun t12x2 =>
 pvK (xLenSl t12x2) fun t13x2 =>
 pvK (some (.int .i64 0)) fun t14x2 =>
 g20_engine_Engine_Ready_l1 W0 cf n (fun (t3x4 : AVal) (Hx5 : AHeap) => (g20_engine_Engine_Ready_r1 W0 cf n t3x4 Hx5 : CallRes)) n (tt T 0) (tt T 3) t12x2 t13x2 t14x2 H) (codeK W0 cf n (g20_engine_Engine_Ready_kr W0 cf n) (g20_engine_Engine_Ready_kp W0 cf n) (((g20_engine_Engine_Ready_c).sb).sb).sb .no (fun i T D H => (CallRes.stuck : CallRes)) (fun T D H => (.ret (tt T 2) H : CallRes)) T [] H) := fun T H => Below.conv (Below.trans (h4 T H) (codeK_mono _ (fun _ _ _ => Below.refl _) h3 T H)) (by kernel_rfl) (by kernel_rfl)
  have h9 : ∀ T H, Below (pvK (some (.slice none 0 (.ex 0))) fun t2x5 =>
 pvK (some (tt T 0)) fun t6x2 =>
 outK (callR (cf 60 [t6x2] H)) CallRes.pan fun t7x2 Hx18 =>
 pvK (unA .not t7x2) fun t8x2 =>
 condK t8x2
 (pvK (some (.slice none 0 (.ex 0))) fun t2x6 =>
 .ret t2x6 Hx18)
 (pvK (some (.slice none 0 (.ex 0))) fun t3x15 =>
 pvK (some (tt T 0)) fun t9x6 =>
 pvK (xNilCheck [] t9x6) fun t10x6 =>
 pvK (xFieldAddr 13 t10x6) fun t11x6 =>
 pvK (xLoad1 W0 t11x6 Hx18) fun t12x6 =>
 pvK (xLenSl t12x6) fun t13x6 =>
 pvK (some (.int .i64 0)) fun t14x7 =>
 g20_engine_Engine_Ready_l1 W0 cf n (fun (t3x16 : AVal) (Hx19 : AHeap) => (g20_engine_Engine_Ready_r1 W0 cf n t3x16 Hx19 : CallRes)) n (tt T 0) t3x15 t12x6 t13x6 t14x7 Hx18)) ((fun T D H => codeK W0 cf n (g20_engine_Engine_Ready_kr W0 cf n) (g20_engine_Engine_Ready_kp W0 cf n) (g20_engine_Engine_Ready_c).sa .no (fun i T D H => (CallRes.stuck : CallRes)) (fun T D H => codeK W0 cf n (g20_engine_Engine_Ready_kr W0 cf n) (g20_engine_Engine_Ready_kp W0 cf n) ((g20_engine_Engine_Ready_c).sb).sa .no (fun i T D H => (CallRes.stuck : CallRes)) (fun T D H => codeK W0 cf n (g20_engine_Engine_Ready_kr W0 cf n) (g20_engine_Engine_Ready_kp W0 cf n) (((g20_engine_Engine_Ready_c).sb).sb).sa .no (fun i T D H => (CallRes.stuck : CallRes)) (fun T D H => (pvK (some (tt T 0)) fun t9x5 =>
 pvK (xNilCheck [] t9x5) fun t10x5 =>
 pvK (xFieldAddr 13 t10x5) fun t11x5 =>
 pvK (xLoad1 W0 t11x5 H) fun t12x5 =>
 pvK (xLenSl t12x5) fun t13x5 =>
 pvK (some (.int .i64 0)) fun t14x6 =>
 g20_engine_Engine_Ready_l1 W0 cf n (fun (t3x14 : AVal) (Hx17 : AHeap) => (g20_engine_Engine_Ready_r1 W0 cf n t3x14 Hx17 : CallRes)) n (tt T 0) (tt T 3) t12x5 t13x5 t14x6 H : CallRes)) T D H) T D H) T D H) T [] H) := fun T H => Below.of_eq (by kernel_rfl)
  have h1 : ∀ T H, Below (pvK (some (.slice none 0 (.ex 0))) fun t2x2 =>
 pvK (some (tt T 0)) fun t6x1 =>
 outK (callR (cf 60 [t6x1] H)) CallRes.pan fun t7x1 Hx3 =>
 pvK (unA .not t7x1) fun t8x1 =>
 condK t8x1
 (pvK (some (.slice none 0 (.ex 0))) fun t2x3 =>
 .ret t2x3 Hx3)
 (pvK (some (.slice none 0 (.ex 0))) fun t3x2 =>
 pvK (some (tt T 0)) fun t9x1 =>
 pvK (xNilCheck [] t9x1) fun t10x1 =>
 pvK (xFieldAddr 13 t10x1) fun t11x1 =>
 pvK (xLoad1 W0 t11x1 Hx3) fun t12x1 =>
 pvK (xLenSl t12x1) fun t13x1 =>
 pvK (some (.int .i64 0)) fun t14x1 =>
 g20_engine_Engine_Ready_l1 W0 cf n (fun (t3x3 : AVal) (Hx4 : AHeap) => (g20_engine_Engine_Ready_r1 W0 cf n t3x3 Hx4 : CallRes)) n (tt T 0) t3x2 t12x1 t13x1 t14x1 Hx3)) (codeK W0 cf n (g20_engine_Engine_Ready_kr W0 cf n) (g20_engine_Engine_Ready_kp W0 cf n) g20_engine_Engine_Ready_c .no (fun i T D H => (CallRes.stuck : CallRes)) (fun T D H => (.ret (tt T 2) H : CallRes)) T [] H) := fun T H => Below.conv (Below.trans (h9 T H) ((fun T H => codeK_mono (g20_engine_Engine_Ready_c).sa (fun _ _ _ => Below.refl _) (fun T H => codeK_mono ((g20_engine_Engine_Ready_c).sb).sa (fun _ _ _ => Below.refl _) (fun T H => codeK_mono (((g20_engine_Engine_Ready_c).sb).sb).sa (fun _ _ _ => Below.refl _) h2 T H) T H) T H) T H)) (by kernel_rfl) (by kernel_rfl)
  exact Below.conv (Below.trans (h1 (frameOf [t0]) H) (codeK_mono (D := []) (kN' := g20_engine_Engine_Ready_kr W0 cf n) g20_engine_Engine_Ready_c (fun _ _ _ => Below.refl _) (fun T H => Below.of_eq (by kernel_rfl)) (frameOf [t0]) H)) (by kernel_rfl) rfl
theorem g20_engine_Engine_Ready_ok (W0 : BaseF) (n : Nat) (t0 : AVal) (H : AHeap) : Below (g20_engine_Engine_Ready W0 (acall Tz.F W0 Tz.prim2 n) n t0 H) (acall Tz.F W0 Tz.prim2 (n + 1) 20 [t0] H) :=
  Below.trans (g20_engine_Engine_Ready_k W0 _ n t0 H) (callK_run (F := Tz.F) (prim := Tz.prim2) (fl := .no) (by kernel_rfl) g20_engine_Engine_Ready_F (by kernel_rfl))

/-! 21 (*flume.engine.Engine).Step -/
def g21_engine_Engine_Step (W0 : BaseF) (cf : CallF) (n : Nat) (t0 t1 : AVal) (H : AHeap) : CallRes :=
 alK (xNew 32 (AVal.cells t0)) H fun t2 Hx1 =>
 pvK (some (.int .i64 0)) fun t4 =>
 pvK (xLoad1 W0 t2 Hx1) fun t6 =>
 pvK (some t1) fun t7 =>
 outK (callR (cf 63 [t6, t7] Hx1)) CallRes.pan fun t8 Hx2 =>
 alK (xNew 68 (AVal.cells (.ptr none))) Hx2 fun t5 Hx3 =>
 outK (xStore 1 t5 t8 Hx3) CallRes.pan fun _ Hx4 =>
 pvK (xLoad1 W0 t5 Hx4) fun t10 =>
 pvK (negB false (eqPtr Hx4 t10 (.ptr none))) fun t11 =>
 pvK (some t11) fun t9 =>
 condK t9
 (pvK (some (.int .i64 6)) fun t4x1 =>
 .ret t4x1 Hx4)
 (pvK (xLoad1 W0 t5 Hx4) fun t13 =>
 pvK (xNilCheck [] t13) fun t14 =>
 pvK (xFieldAddr 6 t14) fun t15 =>
 pvK (xFieldAddr 0 t15) fun t16 =>
 pvK (xLoad1 W0 t16 Hx4) fun t17 =>
 pvK (negB false (eqNum t17 (.int .i64 9))) fun t18 =>
 pvK (some t18) fun t12 =>
 condK t12
 (pvK (some (.int .i64 63)) fun t4x2 =>
 .ret t4x2 Hx4)
 (pvK (xLoad1 W0 t5 Hx4) fun t20 =>
 pvK (xNilCheck [] t20) fun t21 =>
 pvK (xFieldAddr 6 t21) fun t22 =>
 pvK (xFieldAddr 1 t22) fun t23 =>
 pvK (xLoad1 W0 t23 Hx4) fun t24 =>
 pvK (xLoad1 W0 t2 Hx4) fun t25 =>
 pvK (xLoad1 W0 t5 Hx4) fun t26 =>
 outK (callV cf t24 [t25, t26] Hx4) CallRes.pan fun t27 Hx5 =>
 chkK (true) <|
 pvK (unA .not t27) fun t28 =>
 pvK (some t28) fun t19 =>
 condK t19
 (pvK (some (.int .i64 47)) fun t4x3 =>
 .ret t4x3 Hx5)
 (pvK (some (.func (.func 64) [] [t2, t5])) fun t29 =>
 pvK (xLoad1 W0 t5 Hx5) fun t30 =>
 pvK (xLoad1 W0 t5 Hx5) fun t31 =>
 pvK (xNilCheck [] t31) fun t32 =>
 pvK (xFieldAddr 6 t32) fun t33 =>
 pvK (xFieldAddr 2 t33) fun t34 =>
 pvK (xLoad1 W0 t34 Hx5) fun t35 =>
 pvK (xLoad1 W0 t2 Hx5) fun t36 =>
 pvK (xLoad1 W0 t5 Hx5) fun t37 =>
 outK (callV cf t35 [t36, t37] Hx5) (fun v Hx7 => leaveK (leaveA Tz.F W0 cf n [⟨64, [t2, t5]⟩] (.pan v false) Hx7) fun Hx8 => .ret t4 Hx8) fun t38 Hx6 =>
 chkK ((sameV t30 (xLoad1 W0 t5 Hx6) && true)) <|
 pvK (xNilCheck [] t30) fun t39 =>
 pvK (xFieldAddr 6 t39) fun t40 =>
 outK (xStore 3 t40 t38 Hx6) (fun v Hx10 => leaveK (leaveA Tz.F W0 cf n [⟨64, [t2, t5]⟩] (.pan v false) Hx10) fun Hx11 => .ret t4 Hx11) fun _ Hx9 =>
 chkK (true) <|
 let j1 := fun (Hx12 : AHeap) => (pvK (some (.int .i64 0)) fun t4x4 =>
 leaveK (leaveA Tz.F W0 cf n [⟨64, [t2, t5]⟩] .ret Hx12) fun Hx13 => .ret t4x4 Hx13 : CallRes)
 pvK (xLoad1 W0 t5 Hx9) fun t41x1 =>
 pvK (xNilCheck [] t41x1) fun t42x1 =>
 pvK (xFieldAddr 6 t42x1) fun t43x1 =>
 pvK (xFieldAddr 0 t43x1) fun t44x1 =>
 pvK (xLoad1 W0 t44x1 Hx9) fun t45x1 =>
 pvK (negB false (eqNum t45x1 (.int .i64 9))) fun t46x1 =>
 condK t46x1
 (pvK (xLoad1 W0 t2 Hx9) fun t47x1 =>
 pvK (xLoad1 W0 t5 Hx9) fun t48x1 =>
 outK (callR (cf 66 [t47x1, t48x1] Hx9)) (fun v Hx15 => leaveK (leaveA Tz.F W0 cf n [⟨64, [t2, t5]⟩] (.pan v false) Hx15) fun Hx16 => .ret t4 Hx16) fun t49x1 Hx14 =>
 j1 Hx14)
 (j1 Hx9))))

def g21_engine_Engine_Step_c : ACode := match Tz.F 21 with | some fn => fn.body | none => .stop
theorem g21_engine_Engine_Step_F : Tz.F 21 = some ⟨50, g21_engine_Engine_Step_c, [.t (Path.of 4)]⟩ := by kernel_rfl
def g21_engine_Engine_Step_kr (W0 : BaseF) (cf : CallF) (n : Nat) : KN := fun T D H => leaveK (leaveA Tz.F W0 cf n D .ret H) fun H => resC (resA W0 T H [.t (Path.of 4)]) H
def g21_engine_Engine_Step_kp (W0 : BaseF) (cf : CallF) (n : Nat) : KP := fun v T D H => leaveK (leaveA Tz.F W0 cf n D (.pan v false) H) fun H => resC (resA W0 T H [.t (Path.of 4)]) H
theorem g21_engine_Engine_Step_k (W0 : BaseF) (cf : CallF) (n : Nat) (t0 t1 : AVal) (H : AHeap) : Below (g21_engine_Engine_Step W0 cf n t0 t1 H) (codeK W0 cf n (g21_engine_Engine_Step_kr W0 cf n) (g21_engine_Engine_Step_kp W0 cf n) g21_engine_Engine_Step_c (.seq .no (.seq .no (.seq .no (.seq .yes .no)))) (fun _ _ _ _ => .stuck) (g21_engine_Engine_Step_kr W0 cf n) (frameOf [t0, t1]) [] H) := Below.of_eq (by kernel_rfl)
theorem g21_engine_Engine_Step_ok (W0 : BaseF) (n : Nat) (t0 t1 : AVal) (H : AHeap) : Below (g21_engine_Engine_Step W0 (acall Tz.F W0 Tz.prim2 n) n t0 t1 H) (acall Tz.F W0 Tz.prim2 (n + 1) 21 [t0, t1] H) :=
  Below.trans (g21_engine_Engine_Step_k W0 _ n t0 t1 H) (callK_run (F := Tz.F) (prim := Tz.prim2) (fl := (.seq .no (.seq .no (.seq .no (.seq .yes .no))))) (by kernel_rfl) g21_engine_Engine_Step_F (by kernel_rfl))

/-! 25 flume.flumelaw21.Result -/
def g25_flumelaw21_Result (W0 : BaseF) (cf : CallF) (n : Nat) (t0 t1 : AVal) (H : AHeap) : CallRes :=
 alK (xNew 51 (AVal.cells t0)) H fun t2 Hx1 =>
 alK (xNew 51 (AVal.cells t1)) Hx1 fun t3 Hx2 =>
 pvK (some (.bool false)) fun t4 =>
 pvK (xFieldAddr 0 t2) fun t5 =>
 pvK (xLoad1 W0 t5 Hx2) fun t6 =>
 pvK (xFieldAddr 0 t3) fun t7 =>
 pvK (xLoad1 W0 t7 Hx2) fun t8 =>
 pvK (negB false (eqNum t6 t8)) fun t9 =>
 pvK (some t9) fun t10 =>
 condK t10
 (pvK (xFieldAddr 1 t2) fun t11 =>
 pvK (xLoad1 W0 t11 Hx2) fun t12 =>
 pvK (xFieldAddr 1 t3) fun t13 =>
 pvK (xLoad1 W0 t13 Hx2) fun t14 =>
 pvK (negB false (eqNum t12 t14)) fun t15 =>
 pvK (xPick (.bool true) t15 (.bool false)) fun t16 =>
 pvK (some t16) fun t17 =>
 condK t17
 (pvK (xFieldAddr 2 t2) fun t18 =>
 pvK (xLoad1 W0 t18 Hx2) fun t19 =>
 pvK (xFieldAddr 2 t3) fun t20 =>
 pvK (xLoad1 W0 t20 Hx2) fun t21 =>
 outK (callR (cf 69 [t19, t21] Hx2)) CallRes.pan fun t22 Hx3 =>
 pvK (xPick (.bool true) t22 (.bool false)) fun t23 =>
 pvK (some t23) fun t4x1 =>
 .ret t4x1 Hx3)
 (pvK (xPick (.bool false) AVal.undef (.bool false)) fun _ =>
 pvK (some (.bool false)) fun _ =>
 .ret (.bool false) Hx2))
 (pvK (xPick (.bool false) AVal.undef (.bool false)) fun _ =>
 pvK (some (.bool false)) fun _ =>
 pvK (xPick (.bool false) AVal.undef (.bool false)) fun _ =>
 pvK (some (.bool false)) fun _ =>
 .ret (.bool false) Hx2)

def g25_flumelaw21_Result_c : ACode := match Tz.F 25 with | some fn => fn.body | none => .stop
theorem g25_flumelaw21_Result_F : Tz.F 25 = some ⟨24, g25_flumelaw21_Result_c, [.t (Path.of 4)]⟩ := by kernel_rfl
def g25_flumelaw21_Result_kr (W0 : BaseF) (cf : CallF) (n : Nat) : KN := fun T D H => leaveK (leaveA Tz.F W0 cf n D .ret H) fun H => resC (resA W0 T H [.t (Path.of 4)]) H
def g25_flumelaw21_Result_kp (W0 : BaseF) (cf : CallF) (n : Nat) : KP := fun v T D H => leaveK (leaveA Tz.F W0 cf n D (.pan v false) H) fun H => resC (resA W0 T H [.t (Path.of 4)]) H
theorem g25_flumelaw21_Result_k (W0 : BaseF) (cf : CallF) (n : Nat) (t0 t1 : AVal) (H : AHeap) : Below (g25_flumelaw21_Result W0 cf n t0 t1 H) (codeK W0 cf n (g25_flumelaw21_Result_kr W0 cf n) (g25_flumelaw21_Result_kp W0 cf n) g25_flumelaw21_Result_c .no (fun _ _ _ _ => .stuck) (g25_flumelaw21_Result_kr W0 cf n) (frameOf [t0, t1]) [] H) := Below.of_eq (by kernel_rfl)
theorem g25_flumelaw21_Result_ok (W0 : BaseF) (n : Nat) (t0 t1 : AVal) (H : AHeap) : Below (g25_flumelaw21_Result W0 (acall Tz.F W0 Tz.prim2 n) n t0 t1 H) (acall Tz.F W0 Tz.prim2 (n + 1) 25 [t0, t1] H) :=
  Below.trans (g25_flumelaw21_Result_k W0 _ n t0 t1 H) (callK_run (F := Tz.F) (prim := Tz.prim2) (fl := .no) (by kernel_rfl) g25_flumelaw21_Result_F (by kernel_rfl))

/-! 26 (*flume.engine.Engine).Tick -/
def g26_engine_Engine_Tick_r1 (W0 : BaseF) (cf : CallF) (n : Nat) (t0 t4 : AVal) (H : AHeap) : CallRes :=
 pvK (some t0) fun t26x1 =>
 pvK (xNilCheck [] t26x1) fun t27x1 =>
 pvK (xFieldAddr 11 t27x1) fun t28x1 =>
 pvK (xLoad1 W0 t28x1 H) fun t29x1 =>
 pvK (some t4) fun t30x1 =>
 outK (callR (cf 73 [t29x1, t30x1] H)) CallRes.pan fun t31x1 Hx1 =>
 pvK (some (.bool true)) fun t2x1 =>
 .ret t2x1 Hx1

def g26_engine_Engine_Tick_l1 (W0 : BaseF) (cf : CallF) (n : Nat) (kx0 : AVal → AVal → AHeap → CallRes) (m : Nat) : AVal → AVal → AHeap → CallRes :=
  Nat.rec (motive := fun _ => AVal → AVal → AHeap → CallRes) (fun _ _ _ => .stuck)
  (fun _ ih t0 t4 H =>
 pvK (some t0) fun t19x1 =>
 pvK (some t4) fun t20x1 =>
 outK (callR (cf 71 [t19x1, t20x1] H)) CallRes.pan fun t21x1 Hx1 =>
 pvK (xField1 0 t21x1) fun t22x1 =>
 pvK (unA .not t22x1) fun t23x1 =>
 condK t23x1
 (pvK (some t4) fun t24x1 =>
 outK (callR (cf 72 [t24x1] Hx1)) CallRes.pan fun t25x1 Hx2 =>
 pvK (some t25x1) fun t4x1 =>
 ih t0 t4x1 Hx2)
 (kx0 t0 t4 Hx1)) m

theorem g26_engine_Engine_Tick_l1_succ (W0 : BaseF) (cf : CallF) (n : Nat) (kx0 : AVal → AVal → AHeap → CallRes) (m : Nat) (t0 t4 : AVal) (H : AHeap) : g26_engine_Engine_Tick_l1 W0 cf n kx0 (m + 1) t0 t4 H = (
 pvK (some t0) fun t19x1 =>
 pvK (some t4) fun t20x1 =>
 outK (callR (cf 71 [t19x1, t20x1] H)) CallRes.pan fun t21x1 Hx1 =>
 pvK (xField1 0 t21x1) fun t22x1 =>
 pvK (unA .not t22x1) fun t23x1 =>
 condK t23x1
 (pvK (some t4) fun t24x1 =>
 outK (callR (cf 72 [t24x1] Hx1)) CallRes.pan fun t25x1 Hx2 =>
 pvK (some t25x1) fun t4x1 =>
 g26_engine_Engine_Tick_l1 W0 cf n kx0 m t0 t4x1 Hx2)
 (kx0 t0 t4 Hx1)) := rfl

def g26_engine_Engine_Tick (W0 : BaseF) (cf : CallF) (n : Nat) (t0 : AVal) (H : AHeap) : CallRes :=
 pvK (some (.bool false)) fun t2 =>
 pvK (some t0) fun t5 =>
 outK (callR (cf 70 [t5] H)) CallRes.pan fun t6 Hx1 =>
 pvK (unA .not t6) fun t7 =>
 condK t7
 (pvK (some (.bool false)) fun t2x1 =>
 .ret t2x1 Hx1)
 (pvK (some t0) fun t8 =>
 pvK (xNilCheck [] t8) fun t9 =>
 pvK (xFieldAddr 11 t9) fun t10 =>
 pvK (xLoad1 W0 t10 Hx1) fun t11 =>
 outK (callR (cf 68 [t11] Hx1)) CallRes.pan fun t12 Hx2 =>
 pvK (some t12) fun t3 =>
 pvK (some t3) fun t13 =>
 pvK (some t0) fun t14 =>
 pvK (some t3) fun t15 =>
 outK (callR (cf 71 [t14, t15] Hx2)) CallRes.pan fun t16 Hx3 =>
 pvK (xField1 1 t16) fun t17 =>
 pvK (binA .add t13 t17) fun t18 =>
 pvK (some t18) fun t4 =>
 g26_engine_Engine_Tick_l1 W0 cf n (fun (t0x1 : AVal) (t4x1 : AVal) (Hx4 : AHeap) => (g26_engine_Engine_Tick_r1 W0 cf n t0x1 t4x1 Hx4 : CallRes)) n t0 t4 Hx3)

def g26_engine_Engine_Tick_c : ACode := match Tz.F 26 with | some fn => fn.body | none => .stop
theorem g26_engine_Engine_Tick_F : Tz.F 26 = some ⟨32, g26_engine_Engine_Tick_c, [.t (Path.of 2)]⟩ := by kernel_rfl
def g26_engine_Engine_Tick_kr (W0 : BaseF) (cf : CallF) (n : Nat) : KN := fun T D H => leaveK (leaveA Tz.F W0 cf n D .ret H) fun H => resC (resA W0 T H [.t (Path.of 2)]) H
def g26_engine_Engine_Tick_kp (W0 : BaseF) (cf : CallF) (n : Nat) : KP := fun v T D H => leaveK (leaveA Tz.F W0 cf n D (.pan v false) H) fun H => resC (resA W0 T H [.t (Path.of 2)]) H
theorem g26_engine_Engine_Tick_l1_ok (W0 : BaseF) (cf : CallF) (n : Nat) (kX : Nat → KN) (kx0 : AVal → AVal → AHeap → CallRes) (h0_ : ∀ T H, Below (kx0 (tt T 0) (tt T 4) H) (kX 0 T [] H)) : ∀ m T H, Below (g26_engine_Engine_Tick_l1 W0 cf n kx0 m (tt T 0) (tt T 4) H) (loopK (codeK W0 cf n (g26_engine_Engine_Tick_kr W0 cf n) (g26_engine_Engine_Tick_kp W0 cf n) (((((((g26_engine_Engine_Tick_c).sb).sb).sb).sb).sa).sa).sa .no kX) m T [] H)
  := by
  intro m
  induction m with
  | zero => intro T H; exact Below.stuck _
  | succ m ih =>
    have h6 : ∀ T H, Below (pvK (some (tt T 0)) fun t19 =>
 pvK (some (tt T 4)) fun t20 =>
 outK (callR (cf 71 [t19, t20] H)) CallRes.pan fun t21 Hx13 =>
 pvK (xField1 0 t21) fun t22 =>
 pvK (unA .not t22) fun t23 =>
 condK t23
 (pvK (some (tt T 4)) fun t24 =>
 outK (callR (cf 72 [t24] Hx13)) CallRes.pan fun t25 Hx14 =>
 pvK (some t25) fun t4x7 =>
 g26_engine_Engine_Tick_l1 W0 cf n kx0 m (tt T 0) t4x7 Hx14)
 (kx0 (tt T 0) (tt T 4) Hx13)) (codeK W0 cf n (g26_engine_Engine_Tick_kr W0 cf n) (g26_engine_Engine_Tick_kp W0 cf n) (((((((g26_engine_Engine_Tick_c).sb).sb).sb).sb).sa).sa).sa .no (fun i T D H => (bif Nat.beq i 0 then (kx0 (tt T 0) (tt T 4) H : CallRes) else CallRes.stuck : CallRes)) (fun T D H => (g26_engine_Engine_Tick_l1 W0 cf n kx0 m (tt T 0) (tt T 4) H : CallRes)) T [] H) := fun T H => Below.of_eq (by kernel_rfl)
    intro T H
    refine Below.conv (Below.trans (h6 T H) (codeK_mono _ (kX' := kX) (fun i T H => ?_) ih T H)) (g26_engine_Engine_Tick_l1_succ W0 cf n kx0 m (tt T 0) (tt T 4) H) (loopK_succ _ _ _ _ _)
    try dsimp only
    cases q0 : Nat.beq i 0 with
    | true => rw [Nat.eq_of_beq_eq_true q0]; exact h0_ T H
    | false =>
      exact Below.stuck _

theorem g26_engine_Engine_Tick_k (W0 : BaseF) (cf : CallF) (n : Nat) (t0 : AVal) (H : AHeap) : Below (g26_engine_Engine_Tick W0 cf n t0 H) (codeK W0 cf n (g26_engine_Engine_Tick_kr W0 cf n) (g26_engine_Engine_Tick_kp W0 cf n) g26_engine_Engine_Tick_c .no (fun _ _ _ _ => .stuck) (g26_engine_Engine_Tick_kr W0 cf n) (frameOf [t0]) [] H) := by
  have h3 : ∀ T H, Below (pvK (some (tt T 0)) fun t26 =>
 pvK (xNilCheck [] t26) fun t27 =>
 pvK (xFieldAddr 11 t27) fun t28 =>
 pvK (xLoad1 W0 t28 H) fun t29 =>
 pvK (some (tt T 4)) fun t30 =>
 outK (callR (cf 73 [t29, t30] H)) CallRes.pan fun t31 Hx10 =>
 pvK (some (.bool true)) fun t2x4 =>
 .ret t2x4 Hx10) (codeK W0 cf n (g26_engine_Engine_Tick_kr W0 cf n) (g26_engine_Engine_Tick_kp W0 cf n) (((((g26_engine_Engine_Tick_c).sb).sb).sb).sb).sb .no (fun i T D H => (CallRes.stuck : CallRes)) (fun T D H => (.ret (tt T 2) H : CallRes)) T [] H) := fun T H => Below.of_eq (by kernel_rfl)
  have h5 : ∀ T H, Below (g26_engine_Engine_Tick_l1 W0 cf n (fun (t0x5 : AVal) (t4x6 : AVal) (Hx12 : AHeap) => (g26_engine_Engine_Tick_r1 W0 cf n t0x5 t4x6 Hx12 : CallRes)) n (tt T 0) (tt T 4) H) (codeK W0 cf n (g26_engine_Engine_Tick_kr W0 cf n) (g26_engine_Engine_Tick_kp W0 cf n) ((((((g26_engine_Engine_Tick_c).sb).sb).sb).sb).sa).sa .no (fun i T D H => (bif Nat.beq i 0 then (g26_engine_Engine_Tick_r1 W0 cf n (tt T 0) (tt T 4) H : CallRes) else CallRes.stuck : CallRes)) (fun T D H => (g26_engine_Engine_Tick_r1 W0 cf n (tt T 0) (tt T 4) H : CallRes)) T [] H) := fun T H => Below.conv (g26_engine_Engine_Tick_l1_ok W0 cf n (fun i T D H => (bif Nat.beq i 0 then (g26_engine_Engine_Tick_r1 W0 cf n (tt T 0) (tt T 4) H : CallRes) else CallRes.stuck : CallRes)) (fun (t0x6 : AVal) (t4x8 : AVal) (Hx15 : AHeap) => (g26_engine_Engine_Tick_r1 W0 cf n t0x6 t4x8 Hx15 : CallRes)) (fun T H => Below.of_eq (by kernel_rfl)) n T H) (by kernel_rfl) (by kernel_rfl)
  have h4 : ∀ T H, Below (g26_engine_Engine_Tick_l1 W0 cf n (fun (t0x4 : AVal) (t4x5 : AVal) (Hx11 : AHeap) => (g26_engine_Engine_Tick_r1 W0 cf n t0x4 t4x5 Hx11 : CallRes)) n (tt T 0) (tt T 4) H) (codeK W0 cf n (g26_engine_Engine_Tick_kr W0 cf n) (g26_engine_Engine_Tick_kp W0 cf n) (((((g26_engine_Engine_Tick_c).sb).sb).sb).sb).sa .no (fun i T D H => (CallRes.stuck : CallRes)) (fun T D H => (g26_engine_Engine_Tick_r1 W0 cf n (tt T 0) (tt T 4) H : CallRes)) T [] H) := fun T H => Below.conv (h5 T H) (by kernel_rfl) (by kernel_rfl)
  have h2 : ∀ T H, Below (g26_engine_Engine_Tick_l1 W0 cf n (fun (t0x3 : AVal) (t4x4 : AVal) (Hx9 : AHeap) => (g26_engine_Engine_Tick_r1 W0 cf n t0x3 t4x4 Hx9 : CallRes)) n (tt T 0) (tt T 4) H) (codeK W0 cf n (g26_engine_Engine_Tick_kr W0 cf n) (g26_engine_Engine_Tick_kp W0 cf n) ((((g26_engine_Engine_Tick_c).sb).sb).sb).sb .no (fun i T D H => (CallRes.stuck : CallRes)) (fun T D H => (.ret (tt T 2) H : CallRes)) T [] H) := fun T H => Below.conv (Below.trans (h4 T H) (codeK_mono _ (fun _ _ _ => Below.refl _) h3 T H)) (by kernel_rfl) (by kernel_rfl)
  have h7 : ∀ T H, Below (pvK (some (.bool false)) fun t2x5 =>
 pvK (some (tt T 0)) fun t5x2 =>
 outK (callR (cf 70 [t5x2] H)) CallRes.pan fun t6x2 Hx17 =>
 pvK (unA .not t6x2) fun t7x2 =>
 condK t7x2
 (pvK (some (.bool false)) fun t2x6 =>
 .ret t2x6 Hx17)
 (pvK (some (tt T 0)) fun t8x2 =>
 pvK (xNilCheck [] t8x2) fun t9x2 =>
 pvK (xFieldAddr 11 t9x2) fun t10x2 =>
 pvK (xLoad1 W0 t10x2 Hx17) fun t11x2 =>
 outK (callR (cf 68 [t11x2] Hx17)) CallRes.pan fun t12x2 Hx18 =>
 pvK (some t12x2) fun t3x2 =>
 pvK (some t3x2) fun t13x2 =>
 pvK (some (tt T 0)) fun t14x2 =>
 pvK (some t3x2) fun t15x2 =>
 outK (callR (cf 71 [t14x2, t15x2] Hx18)) CallRes.pan fun t16x2 Hx19 =>
 pvK (xField1 1 t16x2) fun t17x2 =>
 pvK (binA .add t13x2 t17x2) fun t18x2 =>
 pvK (some t18x2) fun t4x10 =>
 g26_engine_Engine_Tick_l1 W0 cf n (fun (t0x8 : AVal) (t4x11 : AVal) (Hx20 : AHeap) => (g26_engine_Engine_Tick_r1 W0 cf n t0x8 t4x11 Hx20 : CallRes)) n (tt T 0) t4x10 Hx19)) ((fun T D H => codeK W0 cf n (g26_engine_Engine_Tick_kr W0 cf n) (g26_engine_Engine_Tick_kp W0 cf n) (g26_engine_Engine_Tick_c).sa .no (fun i T D H => (CallRes.stuck : CallRes)) (fun T D H => codeK W0 cf n (g26_engine_Engine_Tick_kr W0 cf n) (g26_engine_Engine_Tick_kp W0 cf n) ((g26_engine_Engine_Tick_c).sb).sa .no (fun i T D H => (CallRes.stuck : CallRes)) (fun T D H => codeK W0 cf n (g26_engine_Engine_Tick_kr W0 cf n) (g26_engine_Engine_Tick_kp W0 cf n) (((g26_engine_Engine_Tick_c).sb).sb).sa .no (fun i T D H => (CallRes.stuck : CallRes)) (fun T D H => codeK W0 cf n (g26_engine_Engine_Tick_kr W0 cf n) (g26_engine_Engine_Tick_kp W0 cf n) ((((g26_engine_Engine_Tick_c).sb).sb).sb).sa .no (fun i T D H => (CallRes.stuck : CallRes)) (fun T D H => (g26_engine_Engine_Tick_l1 W0 cf n (fun (t0x7 : AVal) (t4x9 : AVal) (Hx16 : AHeap) => (g26_engine_Engine_Tick_r1 W0 cf n t0x7 t4x9 Hx16 : CallRes)) n (tt T 0) (tt T 4) H : CallRes)) T D H) T D H) T D H) T D H) T [] H) := fun T H => Below.of_eq (by kernel_rfl)
  have h1 : ∀ T H, Below (pvK (some (.bool false)) fun t2x2 =>
 pvK (some (tt T 0)) fun t5x1 =>
 outK (callR (cf 70 [t5x1] H)) CallRes.pan fun t6x1 Hx5 =>
 pvK (unA .not t6x1) fun t7x1 =>
 condK t7x1
 (pvK (some (.bool false)) fun t2x3 =>
 .ret t2x3 Hx5)
 (pvK (some (tt T 0)) fun t8x1 =>
 pvK (xNilCheck [] t8x1) fun t9x1 =>
 pvK (xFieldAddr 11 t9x1) fun t10x1 =>
 pvK (xLoad1 W0 t10x1 Hx5) fun t11x1 =>
 outK (callR (cf 68 [t11x1] Hx5)) CallRes.pan fun t12x1 Hx6 =>
 pvK (some t12x1) fun t3x1 =>
 pvK (some t3x1) fun t13x1 =>
 pvK (some (tt T 0)) fun t14x1 =>
 pvK (some t3x1) fun t15x1 =>
 outK (callR (cf 71 [t14x1, t15x1] Hx6)) CallRes.pan fun t16x1 Hx7 =>
 pvK (xField1 1 t16x1) fun t17x1 =>
 pvK (binA .add t13x1 t17x1) fun t18x1 =>
 pvK (some t18x1) fun t4x2 =>
 g26_engine_Engine_Tick_l1 W0 cf n (fun (t0x2 : AVal) (t4x3 : AVal) (Hx8 : AHeap) => (g26_engine_Engine_Tick_r1 W0 cf n t0x2 t4x3 Hx8 : CallRes)) n (tt T 0) t4x2 Hx7)) (codeK W0 cf n (g26_engine_Engine_Tick_kr W0 cf n) (g26_engine_Engine_Tick_kp W0 cf n) g26_engine_Engine_Tick_c .no (fun i T D H => (CallRes.stuck : CallRes)) (fun T D H => (.ret (tt T 2) H : CallRes)) T [] H) := fun T H => Below.conv (Below.trans (h7 T H) ((fun T H => codeK_mono (g26_engine_Engine_Tick_c).sa (fun _ _ _ => Below.refl _) (fun T H => codeK_mono ((g26_engine_Engine_Tick_c).sb).sa (fun _ _ _ => Below.refl _) (fun T H => codeK_mono (((g26_engine_Engine_Tick_c).sb).sb).sa (fun _ _ _ => Below.refl _) (fun T H => codeK_mono ((((g26_engine_Engine_Tick_c).sb).sb).sb).sa (fun _ _ _ => Below.refl _) h2 T H) T H) T H) T H) T H)) (by kernel_rfl) (by kernel_rfl)
  exact Below.conv (Below.trans (h1 (frameOf [t0]) H) (codeK_mono (D := []) (kN' := g26_engine_Engine_Tick_kr W0 cf n) g26_engine_Engine_Tick_c (fun _ _ _ => Below.refl _) (fun T H => Below.of_eq (by kernel_rfl)) (frameOf [t0]) H)) (by kernel_rfl) rfl
theorem g26_engine_Engine_Tick_ok (W0 : BaseF) (n : Nat) (t0 : AVal) (H : AHeap) : Below (g26_engine_Engine_Tick W0 (acall Tz.F W0 Tz.prim2 n) n t0 H) (acall Tz.F W0 Tz.prim2 (n + 1) 26 [t0] H) :=
  Below.trans (g26_engine_Engine_Tick_k W0 _ n t0 H) (callK_run (F := Tz.F) (prim := Tz.prim2) (fl := .no) (by kernel_rfl) g26_engine_Engine_Tick_F (by kernel_rfl))

/-! 22 (*flume.engine.Engine).Look -/
def g22_engine_Engine_Look_j1 (W0 : BaseF) (cf : CallF) (n : Nat) (t2 t5 : AVal) (H : AHeap) : CallRes :=
 pvK (xLoadN W0 13 t5 H) fun t71x1 =>
 outK (xStore 13 t2 t71x1 H) CallRes.pan fun _ Hx1 =>
 resC (resL [xLoadN W0 13 t2 Hx1]) Hx1

def g22_engine_Engine_Look (W0 : BaseF) (cf : CallF) (n : Nat) (t0 : AVal) (H : AHeap) : CallRes :=
 alK (xNew 48 (AVal.cells (.agg [(.int .i64 0), (.int .i64 0), (.int .i64 0), (.int .i64 0), (.int .i64 0), (.int .i64 0), (.int .i64 0), (.int .i64 0), (.float .f64 0), (.bool false), (.bool false), (.bool false), (.int .i64 0)]))) H fun t2 Hx1 =>
 pvK (some t0) fun t6 =>
 outK (callR (cf 60 [t6] Hx1)) CallRes.pan fun t7 Hx2 =>
 pvK (unA .not t7) fun t8 =>
 condK t8
 (pvK (aggO (fillA .leaf (AVal.cells (.agg [(.int .i64 0), (.int .i64 0), (.int .i64 0), (.int .i64 0), (.int .i64 0), (.int .i64 0), (.int .i64 0), (.int .i64 0), (.float .f64 0), (.bool false), (.bool false), (.bool false), (.int .i64 0)])) [])) fun t9 =>
 outK (xStore 13 t2 t9 Hx2) CallRes.pan fun _ Hx3 =>
 resC (resL [xLoadN W0 13 t2 Hx3]) Hx3)
 (pvK (some t0) fun t10 =>
 pvK (xNilCheck [] t10) fun t11 =>
 pvK (xFieldAddr 8 t11) fun t12 =>
 pvK (xLoad1 W0 t12 Hx2) fun t13 =>
 pvK (some t0) fun t15 =>
 pvK (xNilCheck [] t15) fun t16 =>
 pvK (xFieldAddr 9 t16) fun t17 =>
 pvK (xLoad1 W0 t17 Hx2) fun t18 =>
 alK (xNew 154 (AVal.cells (.agg [(.int .i64 0), (.int .i64 0), (.int .i64 0), (.int .i64 0), (.int .i64 0), (.bool false), (.bool false), (.int .i64 0)]))) Hx2 fun t3 Hx4 =>
 chkK ((sameV t18 (xLoad1 W0 t17 Hx4) && (sameV t13 (xLoad1 W0 t12 Hx4) && true))) <|
 alK (xNew 177 (AVal.cells (.agg [(.int .i64 0), (.int .i64 0), (.int .i64 0)]))) Hx4 fun t4 Hx5 =>
 chkK ((sameV t18 (xLoad1 W0 t17 Hx5) && (sameV t13 (xLoad1 W0 t12 Hx5) && true))) <|
 outK (callR (cf 59 [t13] Hx5)) CallRes.pan fun t14 Hx6 =>
 chkK ((sameV t18 (xLoad1 W0 t17 Hx6) && true)) <|
 outK (callR (cf 67 [t18] Hx6)) CallRes.pan fun t19 Hx7 =>
 chkK (true) <|
 outK (xStore 8 t3 t14 Hx7) CallRes.pan fun _ Hx8 =>
 chkK (true) <|
 outK (xStore 3 t4 t19 Hx8) CallRes.pan fun _ Hx9 =>
 chkK (true) <|
 pvK (xFieldAddr 0 t3) fun t20 =>
 pvK (xLoad1 W0 t20 Hx9) fun t21 =>
 pvK (xFieldAddr 2 t3) fun t22 =>
 pvK (xLoad1 W0 t22 Hx9) fun t23 =>
 pvK (some t0) fun t24 =>
 pvK (xNilCheck [] t24) fun t25 =>
 pvK (xFieldAddr 16 t25) fun t26 =>
 pvK (xLoad1 W0 t26 Hx9) fun t27 =>
 pvK (xFieldAddr 0 t4) fun t28 =>
 pvK (xLoad1 W0 t28 Hx9) fun t29 =>
 pvK (xFieldAddr 1 t4) fun t30 =>
 pvK (xLoad1 W0 t30 Hx9) fun t31 =>
 pvK (xFieldAddr 2 t4) fun t32 =>
 pvK (xLoad1 W0 t32 Hx9) fun t33 =>
 pvK (some t0) fun t34 =>
 pvK (xNilCheck [] t34) fun t35 =>
 pvK (xFieldAddr 20 t35) fun t36 =>
 pvK (xLoad1 W0 t36 Hx9) fun t37 =>
 pvK (some t0) fun t38 =>
 pvK (xNilCheck [] t38) fun t39 =>
 pvK (xFieldAddr 11 t39) fun t40 =>
 pvK (xLoad1 W0 t40 Hx9) fun t41 =>
 pvK (some t0) fun t43 =>
 pvK (xNilCheck [] t43) fun t44 =>
 pvK (xFieldAddr 21 t44) fun t45 =>
 pvK (xLoad1 W0 t45 Hx9) fun t46 =>
 pvK (some t0) fun t47 =>
 pvK (xNilCheck [] t47) fun t48 =>
 pvK (xFieldAddr 22 t48) fun t49 =>
 pvK (xLoad1 W0 t49 Hx9) fun t50 =>
 pvK (xFieldAddr 6 t3) fun t51 =>
 pvK (xLoad1 W0 t51 Hx9) fun t52 =>
 pvK (some t0) fun t53 =>
 pvK (xNilCheck [] t53) fun t54 =>
 pvK (xFieldAddr 23 t54) fun t55 =>
 pvK (xLoad1 W0 t55 Hx9) fun t56 =>
 alK (xNew 48 (AVal.cells (.agg [(.int .i64 0), (.int .i64 0), (.int .i64 0), (.int .i64 0), (.int .i64 0), (.int .i64 0), (.int .i64 0), (.int .i64 0), (.float .f64 0), (.bool false), (.bool false), (.bool false), (.int .i64 0)]))) Hx9 fun t5 Hx10 =>
 chkK ((sameV t56 (xLoad1 W0 t55 Hx10) && (sameV t52 (xLoad1 W0 t51 Hx10) && (sameV t50 (xLoad1 W0 t49 Hx10) && (sameV t46 (xLoad1 W0 t45 Hx10) && (sameV t41 (xLoad1 W0 t40 Hx10) && (sameV t37 (xLoad1 W0 t36 Hx10) && (sameV t33 (xLoad1 W0 t32 Hx10) && (sameV t31 (xLoad1 W0 t30 Hx10) && (sameV t29 (xLoad1 W0 t28 Hx10) && (sameV t27 (xLoad1 W0 t26 Hx10) && (sameV t23 (xLoad1 W0 t22 Hx10) && (sameV t21 (xLoad1 W0 t20 Hx10) && true))))))))))))) <|
 outK (callR (cf 68 [t41] Hx10)) CallRes.pan fun t42 Hx11 =>
 chkK ((sameV t56 (xLoad1 W0 t55 Hx11) && (sameV t52 (xLoad1 W0 t51 Hx11) && (sameV t50 (xLoad1 W0 t49 Hx11) && (sameV t46 (xLoad1 W0 t45 Hx11) && (sameV t37 (xLoad1 W0 t36 Hx11) && (sameV t33 (xLoad1 W0 t32 Hx11) && (sameV t31 (xLoad1 W0 t30 Hx11) && (sameV t29 (xLoad1 W0 t28 Hx11) && (sameV t27 (xLoad1 W0 t26 Hx11) && (sameV t23 (xLoad1 W0 t22 Hx11) && (sameV t21 (xLoad1 W0 t20 Hx11) && true)))))))))))) <|
 pvK (aggO (fillA .leaf (AVal.cells (.agg [(.int .i64 0), (.int .i64 0), (.int .i64 0), (.int .i64 0), (.int .i64 0), (.int .i64 0), (.int .i64 0), (.int .i64 0), (.float .f64 0), (.bool false), (.bool false), (.bool false), (.int .i64 0)])) [(0, 1, .c t21), (1, 1, .c t23), (2, 1, .c t27), (3, 1, .c t29), (4, 1, .c t31), (5, 1, .c t33), (7, 1, .c t37), (8, 1, .c t42), (9, 1, .c t46), (10, 1, .c t50), (11, 1, .c t52), (12, 1, .c t56)])) fun t57 =>
 outK (xStore 13 t5 t57 Hx11) CallRes.pan fun _ Hx12 =>
 chkK (true) <|
 pvK (some t0) fun t58 =>
 pvK (xNilCheck [] t58) fun t59 =>
 pvK (xFieldAddr 17 t59) fun t60 =>
 pvK (xLoad1 W0 t60 Hx12) fun t61 =>
 pvK (negB true (eqPtr Hx12 t61 (.ptr none))) fun t62 =>
 condK t62
 (pvK (some t0) fun t63 =>
 pvK (xNilCheck [] t63) fun t64 =>
 pvK (xFieldAddr 17 t64) fun t65 =>
 pvK (xLoad1 W0 t65 Hx12) fun t66 =>
 pvK (xNilCheck [] t66) fun t67 =>
 pvK (xFieldAddr 0 t67) fun t68 =>
 pvK (xLoad1 W0 t68 Hx12) fun t69 =>
 pvK (xFieldAddr 6 t5) fun t70 =>
 outK (xStore 1 t70 t69 Hx12) CallRes.pan fun _ Hx13 =>
 g22_engine_Engine_Look_j1 W0 cf n t2 t5 Hx13)
 (g22_engine_Engine_Look_j1 W0 cf n t2 t5 Hx12))

def g22_engine_Engine_Look_c : ACode := match Tz.F 22 with | some fn => fn.body | none => .stop
theorem g22_engine_Engine_Look_F : Tz.F 22 = some ⟨72, g22_engine_Engine_Look_c, [.cellN (Path.of 2) 13]⟩ := by kernel_rfl
def g22_engine_Engine_Look_kr (W0 : BaseF) (cf : CallF) (n : Nat) : KN := fun T D H => leaveK (leaveA Tz.F W0 cf n D .ret H) fun H => resC (resA W0 T H [.cellN (Path.of 2) 13]) H
def g22_engine_Engine_Look_kp (W0 : BaseF) (cf : CallF) (n : Nat) : KP := fun v T D H => leaveK (leaveA Tz.F W0 cf n D (.pan v false) H) fun H => resC (resA W0 T H [.cellN (Path.of 2) 13]) H
theorem g22_engine_Engine_Look_k (W0 : BaseF) (cf : CallF) (n : Nat) (t0 : AVal) (H : AHeap) : Below (g22_engine_Engine_Look W0 cf n t0 H) (codeK W0 cf n (g22_engine_Engine_Look_kr W0 cf n) (g22_engine_Engine_Look_kp W0 cf n) g22_engine_Engine_Look_c .no (fun _ _ _ _ => .stuck) (g22_engine_Engine_Look_kr W0 cf n) (frameOf [t0]) [] H) := Below.of_eq (by kernel_rfl)
theorem g22_engine_Engine_Look_ok (W0 : BaseF) (n : Nat) (t0 : AVal) (H : AHeap) : Below (g22_engine_Engine_Look W0 (acall Tz.F W0 Tz.prim2 n) n t0 H) (acall Tz.F W0 Tz.prim2 (n + 1) 22 [t0] H) :=
  Below.trans (g22_engine_Engine_Look_k W0 _ n t0 H) (callK_run (F := Tz.F) (prim := Tz.prim2) (fl := .no) (by kernel_rfl) g22_engine_Engine_Look_F (by kernel_rfl))

/-! 27 (*flume.engine.Engine).State -/
def g27_engine_Engine_State (W0 : BaseF) (cf : CallF) (n : Nat) (t0 t1 : AVal) (H : AHeap) : CallRes :=
 pvK (some (.int .i64 0)) fun t4 =>
 pvK (some t0) fun t6 =>
 pvK (some t1) fun t7 =>
 outK (callR (cf 63 [t6, t7] H)) CallRes.pan fun t8 Hx1 =>
 pvK (some t8) fun t5 =>
 pvK (some t5) fun t9 =>
 pvK (negB false (eqPtr Hx1 t9 (.ptr none))) fun t10 =>
 condK t10
 (pvK (some (.int .i64 0)) fun t4x1 =>
 .ret t4x1 Hx1)
 (pvK (some t5) fun t11 =>
 pvK (xNilCheck [] t11) fun t12 =>
 pvK (xFieldAddr 6 t12) fun t13 =>
 pvK (xFieldAddr 0 t13) fun t14 =>
 pvK (xLoad1 W0 t14 Hx1) fun t15 =>
 pvK (some t15) fun t4x2 =>
 .ret t4x2 Hx1)

def g27_engine_Engine_State_c : ACode := match Tz.F 27 with | some fn => fn.body | none => .stop
theorem g27_engine_Engine_State_F : Tz.F 27 = some ⟨16, g27_engine_Engine_State_c, [.t (Path.of 4)]⟩ := by kernel_rfl
def g27_engine_Engine_State_kr (W0 : BaseF) (cf : CallF) (n : Nat) : KN := fun T D H => leaveK (leaveA Tz.F W0 cf n D .ret H) fun H => resC (resA W0 T H [.t (Path.of 4)]) H
def g27_engine_Engine_State_kp (W0 : BaseF) (cf : CallF) (n : Nat) : KP := fun v T D H => leaveK (leaveA Tz.F W0 cf n D (.pan v false) H) fun H => resC (resA W0 T H [.t (Path.of 4)]) H
theorem g27_engine_Engine_State_k (W0 : BaseF) (cf : CallF) (n : Nat) (t0 t1 : AVal) (H : AHeap) : Below (g27_engine_Engine_State W0 cf n t0 t1 H) (codeK W0 cf n (g27_engine_Engine_State_kr W0 cf n) (g27_engine_Engine_State_kp W0 cf n) g27_engine_Engine_State_c .no (fun _ _ _ _ => .stuck) (g27_engine_Engine_State_kr W0 cf n) (frameOf [t0, t1]) [] H) := Below.of_eq (by kernel_rfl)
theorem g27_engine_Engine_State_ok (W0 : BaseF) (n : Nat) (t0 t1 : AVal) (H : AHeap) : Below (g27_engine_Engine_State W0 (acall Tz.F W0 Tz.prim2 n) n t0 t1 H) (acall Tz.F W0 Tz.prim2 (n + 1) 27 [t0, t1] H) :=
  Below.trans (g27_engine_Engine_State_k W0 _ n t0 t1 H) (callK_run (F := Tz.F) (prim := Tz.prim2) (fl := .no) (by kernel_rfl) g27_engine_Engine_State_F (by kernel_rfl))

/-! 60 (*flume.engine.Engine).there -/
def g60_engine_Engine_there (W0 : BaseF) (cf : CallF) (n : Nat) (t0 : AVal) (H : AHeap) : CallRes :=
 pvK (some (.bool false)) fun t2 =>
 pvK (some t0) fun t3 =>
 pvK (negB true (eqPtr H t3 (.ptr none))) fun t4 =>
 pvK (some t4) fun t5 =>
 condK t5
 (pvK (some t0) fun t6 =>
 pvK (xNilCheck [] t6) fun t7 =>
 pvK (xFieldAddr 8 t7) fun t8 =>
 pvK (xLoad1 W0 t8 H) fun t9 =>
 pvK (negB true (eqPtr H t9 (.ptr none))) fun t10 =>
 pvK (xPick (.bool true) t10 (.bool false)) fun t11 =>
 pvK (some t11) fun t2x1 =>
 .ret t2x1 H)
 (pvK (xPick (.bool false) AVal.undef (.bool false)) fun _ =>
 pvK (some (.bool false)) fun _ =>
 .ret (.bool false) H)

def g60_engine_Engine_there_c : ACode := match Tz.F 60 with | some fn => fn.body | none => .stop
theorem g60_engine_Engine_there_F : Tz.F 60 = some ⟨12, g60_engine_Engine_there_c, [.t (Path.of 2)]⟩ := by kernel_rfl
def g60_engine_Engine_there_kr (W0 : BaseF) (cf : CallF) (n : Nat) : KN := fun T D H => leaveK (leaveA Tz.F W0 cf n D .ret H) fun H => resC (resA W0 T H [.t (Path.of 2)]) H
def g60_engine_Engine_there_kp (W0 : BaseF) (cf : CallF) (n : Nat) : KP := fun v T D H => leaveK (leaveA Tz.F W0 cf n D (.pan v false) H) fun H => resC (resA W0 T H [.t (Path.of 2)]) H
theorem g60_engine_Engine_there_k (W0 : BaseF) (cf : CallF) (n : Nat) (t0 : AVal) (H : AHeap) : Below (g60_engine_Engine_there W0 cf n t0 H) (codeK W0 cf n (g60_engine_Engine_there_kr W0 cf n) (g60_engine_Engine_there_kp W0 cf n) g60_engine_Engine_there_c .no (fun _ _ _ _ => .stuck) (g60_engine_Engine_there_kr W0 cf n) (frameOf [t0]) [] H) := Below.of_eq (by kernel_rfl)
theorem g60_engine_Engine_there_ok (W0 : BaseF) (n : Nat) (t0 : AVal) (H : AHeap) : Below (g60_engine_Engine_there W0 (acall Tz.F W0 Tz.prim2 n) n t0 H) (acall Tz.F W0 Tz.prim2 (n + 1) 60 [t0] H) :=
  Below.trans (g60_engine_Engine_there_k W0 _ n t0 H) (callK_run (F := Tz.F) (prim := Tz.prim2) (fl := .no) (by kernel_rfl) g60_engine_Engine_there_F (by kernel_rfl))

/-! 63 (*flume.engine.Engine).call -/
def g63_engine_Engine_call_j1 (W0 : BaseF) (cf : CallF) (n : Nat) (t0 t1 t20 : AVal) (H : AHeap) : CallRes :=
 condK t20
 (pvK (some (.ptr none)) fun t4x1 =>
 .ret t4x1 H)
 (pvK (some t0) fun t21x1 =>
 pvK (xNilCheck [] t21x1) fun t22x1 =>
 pvK (xFieldAddr 12 t22x1) fun t23x1 =>
 pvK (xLoad1 W0 t23x1 H) fun t24x1 =>
 pvK (some t1) fun t25x1 =>
 pvK (binA .sub t25x1 (.int .i64 1)) fun t26x1 =>
 pvK (xIdxSl 1 t24x1 t26x1) fun t27x1 =>
 pvK (xLoad1 W0 t27x1 H) fun t28x1 =>
 pvK (some t28x1) fun t4x2 =>
 .ret t4x2 H)

def g63_engine_Engine_call (W0 : BaseF) (cf : CallF) (n : Nat) (t0 t1 : AVal) (H : AHeap) : CallRes :=
 pvK (some (.ptr none)) fun t4 =>
 pvK (some t0) fun t5 =>
 outK (callR (cf 60 [t5] H)) CallRes.pan fun t6 Hx1 =>
 pvK (unA .not t6) fun t7 =>
 pvK (some t7) fun t8 =>
 condK t8
 (pvK (xPick (.bool true) (.bool true) AVal.undef) fun _ =>
 pvK (some (.bool true)) fun _ =>
 pvK (xPick (.bool true) (.bool true) AVal.undef) fun _ =>
 g63_engine_Engine_call_j1 W0 cf n t0 t1 (.bool true) Hx1)
 (pvK (some t1) fun t9 =>
 pvK (binA .lss t9 (.int .i64 1)) fun t10 =>
 pvK (xPick (.bool false) (.bool true) t10) fun t11x1 =>
 pvK (some t11x1) fun t12x1 =>
 condK t12x1
 (pvK (xPick (.bool true) (.bool true) AVal.undef) fun _ =>
 g63_engine_Engine_call_j1 W0 cf n t0 t1 (.bool true) Hx1)
 (pvK (some t1) fun t13 =>
 pvK (some t0) fun t14 =>
 pvK (xNilCheck [] t14) fun t15 =>
 pvK (xFieldAddr 12 t15) fun t16 =>
 pvK (xLoad1 W0 t16 Hx1) fun t17 =>
 pvK (xLenSl t17) fun t18 =>
 pvK (binA .gtr t13 t18) fun t19 =>
 pvK (xPick (.bool false) (.bool true) t19) fun t20x2 =>
 g63_engine_Engine_call_j1 W0 cf n t0 t1 t20x2 Hx1))

def g63_engine_Engine_call_c : ACode := match Tz.F 63 with | some fn => fn.body | none => .stop
theorem g63_engine_Engine_call_F : Tz.F 63 = some ⟨29, g63_engine_Engine_call_c, [.t (Path.of 4)]⟩ := by kernel_rfl
def g63_engine_Engine_call_kr (W0 : BaseF) (cf : CallF) (n : Nat) : KN := fun T D H => leaveK (leaveA Tz.F W0 cf n D .ret H) fun H => resC (resA W0 T H [.t (Path.of 4)]) H
def g63_engine_Engine_call_kp (W0 : BaseF) (cf : CallF) (n : Nat) : KP := fun v T D H => leaveK (leaveA Tz.F W0 cf n D (.pan v false) H) fun H => resC (resA W0 T H [.t (Path.of 4)]) H
theorem g63_engine_Engine_call_k (W0 : BaseF) (cf : CallF) (n : Nat) (t0 t1 : AVal) (H : AHeap) : Below (g63_engine_Engine_call W0 cf n t0 t1 H) (codeK W0 cf n (g63_engine_Engine_call_kr W0 cf n) (g63_engine_Engine_call_kp W0 cf n) g63_engine_Engine_call_c .no (fun _ _ _ _ => .stuck) (g63_engine_Engine_call_kr W0 cf n) (frameOf [t0, t1]) [] H) := Below.of_eq (by kernel_rfl)
theorem g63_engine_Engine_call_ok (W0 : BaseF) (n : Nat) (t0 t1 : AVal) (H : AHeap) : Below (g63_engine_Engine_call W0 (acall Tz.F W0 Tz.prim2 n) n t0 t1 H) (acall Tz.F W0 Tz.prim2 (n + 1) 63 [t0, t1] H) :=
  Below.trans (g63_engine_Engine_call_k W0 _ n t0 t1 H) (callK_run (F := Tz.F) (prim := Tz.prim2) (fl := .no) (by kernel_rfl) g63_engine_Engine_call_F (by kernel_rfl))

/-! 69 flume.flumelaw1.Eq -/
def g69_flumelaw1_Eq_r1 (W0 : BaseF) (cf : CallF) (n : Nat) (H : AHeap) : CallRes :=
 pvK (some (.bool true)) fun t4x1 =>
 .ret t4x1 H

def g69_flumelaw1_Eq_l1 (W0 : BaseF) (cf : CallF) (n : Nat) (kx0 : AHeap → CallRes) (m : Nat) : AVal → AVal → AVal → AHeap → CallRes :=
  Nat.rec (motive := fun _ => AVal → AVal → AVal → AHeap → CallRes) (fun _ _ _ _ => .stuck)
  (fun _ ih t0 t1 t5 H =>
 pvK (some t5) fun t11x1 =>
 pvK (some t0) fun t12x1 =>
 pvK (xLenSl t12x1) fun t13x1 =>
 pvK (binA .lss t11x1 t13x1) fun t14x1 =>
 condK t14x1
 (pvK (some t0) fun t17x1 =>
 pvK (some t5) fun t18x1 =>
 pvK (xIdxSl 1 t17x1 t18x1) fun t19x1 =>
 pvK (xLoad1 W0 t19x1 H) fun t20x1 =>
 pvK (some t1) fun t21x1 =>
 pvK (some t5) fun t22x1 =>
 pvK (xIdxSl 1 t21x1 t22x1) fun t23x1 =>
 pvK (xLoad1 W0 t23x1 H) fun t24x1 =>
 pvK (negB true (eqNum t20x1 t24x1)) fun t25x1 =>
 condK t25x1
 (pvK (some (.bool false)) fun t4x1 =>
 .ret t4x1 H)
 (pvK (some t5) fun t15x1 =>
 pvK (binA .add t15x1 (.int .i64 1)) fun t16x1 =>
 pvK (some t16x1) fun t5x1 =>
 ih t0 t1 t5x1 H))
 (kx0 H)) m

theorem g69_flumelaw1_Eq_l1_succ (W0 : BaseF) (cf : CallF) (n : Nat) (kx0 : AHeap → CallRes) (m : Nat) (t0 t1 t5 : AVal) (H : AHeap) : g69_flumelaw1_Eq_l1 W0 cf n kx0 (m + 1) t0 t1 t5 H = (
 pvK (some t5) fun t11x1 =>
 pvK (some t0) fun t12x1 =>
 pvK (xLenSl t12x1) fun t13x1 =>
 pvK (binA .lss t11x1 t13x1) fun t14x1 =>
 condK t14x1
 (pvK (some t0) fun t17x1 =>
 pvK (some t5) fun t18x1 =>
 pvK (xIdxSl 1 t17x1 t18x1) fun t19x1 =>
 pvK (xLoad1 W0 t19x1 H) fun t20x1 =>
 pvK (some t1) fun t21x1 =>
 pvK (some t5) fun t22x1 =>
 pvK (xIdxSl 1 t21x1 t22x1) fun t23x1 =>
 pvK (xLoad1 W0 t23x1 H) fun t24x1 =>
 pvK (negB true (eqNum t20x1 t24x1)) fun t25x1 =>
 condK t25x1
 (pvK (some (.bool false)) fun t4x1 =>
 .ret t4x1 H)
 (pvK (some t5) fun t15x1 =>
 pvK (binA .add t15x1 (.int .i64 1)) fun t16x1 =>
 pvK (some t16x1) fun t5x1 =>
 g69_flumelaw1_Eq_l1 W0 cf n kx0 m t0 t1 t5x1 H))
 (kx0 H)) := rfl

def g69_flumelaw1_Eq (W0 : BaseF) (cf : CallF) (n : Nat) (t0 t1 : AVal) (H : AHeap) : CallRes :=
 pvK (some (.bool false)) fun t4 =>
 pvK (some t0) fun t6 =>
 pvK (xLenSl t6) fun t7 =>
 pvK (some t1) fun t8 =>
 pvK (xLenSl t8) fun t9 =>
 pvK (negB true (eqNum t7 t9)) fun t10 =>
 condK t10
 (pvK (some (.bool false)) fun t4x1 =>
 .ret t4x1 H)
 (pvK (some (.int .i64 0)) fun t5 =>
 g69_flumelaw1_Eq_l1 W0 cf n (fun (Hx1 : AHeap) => (g69_flumelaw1_Eq_r1 W0 cf n Hx1 : CallRes)) n t0 t1 t5 H)

def g69_flumelaw1_Eq_c : ACode := match Tz.F 69 with | some fn => fn.body | none => .stop
theorem g69_flumelaw1_Eq_F : Tz.F 69 = some ⟨26, g69_flumelaw1_Eq_c, [.t (Path.of 4)]⟩ := by kernel_rfl
def g69_flumelaw1_Eq_kr (W0 : BaseF) (cf : CallF) (n : Nat) : KN := fun T D H => leaveK (leaveA Tz.F W0 cf n D .ret H) fun H => resC (resA W0 T H [.t (Path.of 4)]) H
def g69_flumelaw1_Eq_kp (W0 : BaseF) (cf : CallF) (n : Nat) : KP := fun v T D H => leaveK (leaveA Tz.F W0 cf n D (.pan v false) H) fun H => resC (resA W0 T H [.t (Path.of 4)]) H
theorem g69_flumelaw1_Eq_l1_ok (W0 : BaseF) (cf : CallF) (n : Nat) (kX : Nat → KN) (kx0 : AHeap → CallRes) (h0_ : ∀ T H, Below (kx0 H) (kX 0 T [] H)) : ∀ m T H, Below (g69_flumelaw1_Eq_l1 W0 cf n kx0 m (tt T 0) (tt T 1) (tt T 5) H) (loopK (codeK W0 cf n (g69_flumelaw1_Eq_kr W0 cf n) (g69_flumelaw1_Eq_kp W0 cf n) ((((((g69_flumelaw1_Eq_c).sb).sb).sa).sb).sa).sa .no kX) m T [] H)
  := by
  intro m
  induction m with
  | zero => intro T H; exact Below.stuck _
  | succ m ih =>
    have h7 : ∀ T H, Below (pvK (some (tt T 5)) fun t11 =>
 pvK (some (tt T 0)) fun t12 =>
 pvK (xLenSl t12) fun t13 =>
 pvK (binA .lss t11 t13) fun t14 =>
 condK t14
 (pvK (some (tt T 0)) fun t17 =>
 pvK (some (tt T 5)) fun t18 =>
 pvK (xIdxSl 1 t17 t18) fun t19 =>
 pvK (xLoad1 W0 t19 H) fun t20 =>
 pvK (some (tt T 1)) fun t21 =>
 pvK (some (tt T 5)) fun t22 =>
 pvK (xIdxSl 1 t21 t22) fun t23 =>
 pvK (xLoad1 W0 t23 H) fun t24 =>
 pvK (negB true (eqNum t20 t24)) fun t25 =>
 condK t25
 (pvK (some (.bool false)) fun t4x5 =>
 .ret t4x5 H)
 (pvK (some (tt T 5)) fun t15 =>
 pvK (binA .add t15 (.int .i64 1)) fun t16 =>
 pvK (some t16) fun t5x4 =>
 g69_flumelaw1_Eq_l1 W0 cf n kx0 m (tt T 0) (tt T 1) t5x4 H))
 (kx0 H)) (codeK W0 cf n (g69_flumelaw1_Eq_kr W0 cf n) (g69_flumelaw1_Eq_kp W0 cf n) ((((((g69_flumelaw1_Eq_c).sb).sb).sa).sb).sa).sa .no (fun i T D H => (bif Nat.beq i 0 then (kx0 H : CallRes) else CallRes.stuck : CallRes)) (fun T D H => (g69_flumelaw1_Eq_l1 W0 cf n kx0 m (tt T 0) (tt T 1) (tt T 5) H : CallRes)) T [] H) := fun T H => Below.of_eq (by kernel_rfl)
    intro T H
    refine Below.conv (Below.trans (h7 T H) (codeK_mono _ (kX' := kX) (fun i T H => ?_) ih T H)) (g69_flumelaw1_Eq_l1_succ W0 cf n kx0 m (tt T 0) (tt T 1) (tt T 5) H) (loopK_succ _ _ _ _ _)
    try dsimp only
    cases q0 : Nat.beq i 0 with
    | true => rw [Nat.eq_of_beq_eq_true q0]; exact h0_ T H
    | false =>
      exact Below.stuck _

theorem g69_flumelaw1_Eq_k (W0 : BaseF) (cf : CallF) (n : Nat) (t0 t1 : AVal) (H : AHeap) : Below (g69_flumelaw1_Eq W0 cf n t0 t1 H) (codeK W0 cf n (g69_flumelaw1_Eq_kr W0 cf n) (g69_flumelaw1_Eq_kp W0 cf n) g69_flumelaw1_Eq_c .no (fun _ _ _ _ => .stuck) (g69_flumelaw1_Eq_kr W0 cf n) (frameOf [t0, t1]) [] H) := by
  have h3 : ∀ T H, Below (pvK (some (.bool true)) fun t4x4 =>
 .ret t4x4 H) (codeK W0 cf n (g69_flumelaw1_Eq_kr W0 cf n) (g69_flumelaw1_Eq_kp W0 cf n) (((g69_flumelaw1_Eq_c).sb).sb).sb .no (fun i T D H => (CallRes.stuck : CallRes)) (fun T D H => (.ret (tt T 4) H : CallRes)) T [] H) := fun T H => Below.of_eq (by kernel_rfl)
  have h6 : ∀ T H, Below (g69_flumelaw1_Eq_l1 W0 cf n (fun (Hx6 : AHeap) => (g69_flumelaw1_Eq_r1 W0 cf n Hx6 : CallRes)) n (tt T 0) (tt T 1) (tt T 5) H) (codeK W0 cf n (g69_flumelaw1_Eq_kr W0 cf n) (g69_flumelaw1_Eq_kp W0 cf n) (((((g69_flumelaw1_Eq_c).sb).sb).sa).sb).sa .no (fun i T D H => (bif Nat.beq i 0 then (g69_flumelaw1_Eq_r1 W0 cf n H : CallRes) else CallRes.stuck : CallRes)) (fun T D H => (g69_flumelaw1_Eq_r1 W0 cf n H : CallRes)) T [] H) := fun T H => Below.conv (g69_flumelaw1_Eq_l1_ok W0 cf n (fun i T D H => (bif Nat.beq i 0 then (g69_flumelaw1_Eq_r1 W0 cf n H : CallRes) else CallRes.stuck : CallRes)) (fun (Hx7 : AHeap) => (g69_flumelaw1_Eq_r1 W0 cf n Hx7 : CallRes)) (fun T H => Below.of_eq (by kernel_rfl)) n T H) (by kernel_rfl) (by kernel_rfl)
  have h5 : ∀ T H, Below (g69_flumelaw1_Eq_l1 W0 cf n (fun (Hx5 : AHeap) => (g69_flumelaw1_Eq_r1 W0 cf n Hx5 : CallRes)) n (tt T 0) (tt T 1) (tt T 5) H) (codeK W0 cf n (g69_flumelaw1_Eq_kr W0 cf n) (g69_flumelaw1_Eq_kp W0 cf n) ((((g69_flumelaw1_Eq_c).sb).sb).sa).sb .no (fun i T D H => (CallRes.stuck : CallRes)) (fun T D H => (g69_flumelaw1_Eq_r1 W0 cf n H : CallRes)) T [] H) := fun T H => Below.conv (h6 T H) (by kernel_rfl) (by kernel_rfl)
  have h8 : ∀ T H, Below (pvK (some (.int .i64 0)) fun t5x5 =>
 g69_flumelaw1_Eq_l1 W0 cf n (fun (Hx9 : AHeap) => (g69_flumelaw1_Eq_r1 W0 cf n Hx9 : CallRes)) n (tt T 0) (tt T 1) t5x5 H) ((fun T D H => codeK W0 cf n (g69_flumelaw1_Eq_kr W0 cf n) (g69_flumelaw1_Eq_kp W0 cf n) ((((g69_flumelaw1_Eq_c).sb).sb).sa).sa .no (fun i T D H => (CallRes.stuck : CallRes)) (fun T D H => (g69_flumelaw1_Eq_l1 W0 cf n (fun (Hx8 : AHeap) => (g69_flumelaw1_Eq_r1 W0 cf n Hx8 : CallRes)) n (tt T 0) (tt T 1) (tt T 5) H : CallRes)) T D H) T [] H) := fun T H => Below.of_eq (by kernel_rfl)
  have h4 : ∀ T H, Below (pvK (some (.int .i64 0)) fun t5x3 =>
 g69_flumelaw1_Eq_l1 W0 cf n (fun (Hx4 : AHeap) => (g69_flumelaw1_Eq_r1 W0 cf n Hx4 : CallRes)) n (tt T 0) (tt T 1) t5x3 H) (codeK W0 cf n (g69_flumelaw1_Eq_kr W0 cf n) (g69_flumelaw1_Eq_kp W0 cf n) (((g69_flumelaw1_Eq_c).sb).sb).sa .no (fun i T D H => (CallRes.stuck : CallRes)) (fun T D H => (g69_flumelaw1_Eq_r1 W0 cf n H : CallRes)) T [] H) := fun T H => Below.conv (Below.trans (h8 T H) ((fun T H => codeK_mono ((((g69_flumelaw1_Eq_c).sb).sb).sa).sa (fun _ _ _ => Below.refl _) h5 T H) T H)) (by kernel_rfl) (by kernel_rfl)
  have h2 : ∀ T H, Below (pvK (some (.int .i64 0)) fun t5x2 =>
 g69_flumelaw1_Eq_l1 W0 cf n (fun (Hx3 : AHeap) => (g69_flumelaw1_Eq_r1 W0 cf n Hx3 : CallRes)) n (tt T 0) (tt T 1) t5x2 H) (codeK W0 cf n (g69_flumelaw1_Eq_kr W0 cf n) (g69_flumelaw1_Eq_kp W0 cf n) ((g69_flumelaw1_Eq_c).sb).sb .no (fun i T D H => (CallRes.stuck : CallRes)) (fun T D H => (.ret (tt T 4) H : CallRes)) T [] H) := fun T H => Below.conv (Below.trans (h4 T H) (codeK_mono _ (fun _ _ _ => Below.refl _) h3 T H)) (by kernel_rfl) (by kernel_rfl)
  have h9 : ∀ T H, Below (pvK (some (.bool false)) fun t4x6 =>
 pvK (some (tt T 0)) fun t6x2 =>
 pvK (xLenSl t6x2) fun t7x2 =>
 pvK (some (tt T 1)) fun t8x2 =>
 pvK (xLenSl t8x2) fun t9x2 =>
 pvK (negB true (eqNum t7x2 t9x2)) fun t10x2 =>
 condK t10x2
 (pvK (some (.bool false)) fun t4x7 =>
 .ret t4x7 H)
 (pvK (some (.int .i64 0)) fun t5x7 =>
 g69_flumelaw1_Eq_l1 W0 cf n (fun (Hx11 : AHeap) => (g69_flumelaw1_Eq_r1 W0 cf n Hx11 : CallRes)) n (tt T 0) (tt T 1) t5x7 H)) ((fun T D H => codeK W0 cf n (g69_flumelaw1_Eq_kr W0 cf n) (g69_flumelaw1_Eq_kp W0 cf n) (g69_flumelaw1_Eq_c).sa .no (fun i T D H => (CallRes.stuck : CallRes)) (fun T D H => codeK W0 cf n (g69_flumelaw1_Eq_kr W0 cf n) (g69_flumelaw1_Eq_kp W0 cf n) ((g69_flumelaw1_Eq_c).sb).sa .no (fun i T D H => (CallRes.stuck : CallRes)) (fun T D H => (pvK (some (.int .i64 0)) fun t5x6 =>
 g69_flumelaw1_Eq_l1 W0 cf n (fun (Hx10 : AHeap) => (g69_flumelaw1_Eq_r1 W0 cf n Hx10 : CallRes)) n (tt T 0) (tt T 1) t5x6 H : CallRes)) T D H) T D H) T [] H) := fun T H => Below.of_eq (by kernel_rfl)
  have h1 : ∀ T H, Below (pvK (some (.bool false)) fun t4x2 =>
 pvK (some (tt T 0)) fun t6x1 =>
 pvK (xLenSl t6x1) fun t7x1 =>
 pvK (some (tt T 1)) fun t8x1 =>
 pvK (xLenSl t8x1) fun t9x1 =>
 pvK (negB true (eqNum t7x1 t9x1)) fun t10x1 =>
 condK t10x1
 (pvK (some (.bool false)) fun t4x3 =>
 .ret t4x3 H)
 (pvK (some (.int .i64 0)) fun t5x1 =>
 g69_flumelaw1_Eq_l1 W0 cf n (fun (Hx2 : AHeap) => (g69_flumelaw1_Eq_r1 W0 cf n Hx2 : CallRes)) n (tt T 0) (tt T 1) t5x1 H)) (codeK W0 cf n (g69_flumelaw1_Eq_kr W0 cf n) (g69_flumelaw1_Eq_kp W0 cf n) g69_flumelaw1_Eq_c .no (fun i T D H => (CallRes.stuck : CallRes)) (fun T D H => (.ret (tt T 4) H : CallRes)) T [] H) := fun T H => Below.conv (Below.trans (h9 T H) ((fun T H => codeK_mono (g69_flumelaw1_Eq_c).sa (fun _ _ _ => Below.refl _) (fun T H => codeK_mono ((g69_flumelaw1_Eq_c).sb).sa (fun _ _ _ => Below.refl _) h2 T H) T H) T H)) (by kernel_rfl) (by kernel_rfl)
  exact Below.conv (Below.trans (h1 (frameOf [t0, t1]) H) (codeK_mono (D := []) (kN' := g69_flumelaw1_Eq_kr W0 cf n) g69_flumelaw1_Eq_c (fun _ _ _ => Below.refl _) (fun T H => Below.of_eq (by kernel_rfl)) (frameOf [t0, t1]) H)) (by kernel_rfl) rfl
theorem g69_flumelaw1_Eq_ok (W0 : BaseF) (n : Nat) (t0 t1 : AVal) (H : AHeap) : Below (g69_flumelaw1_Eq W0 (acall Tz.F W0 Tz.prim2 n) n t0 t1 H) (acall Tz.F W0 Tz.prim2 (n + 1) 69 [t0, t1] H) :=
  Below.trans (g69_flumelaw1_Eq_k W0 _ n t0 t1 H) (callK_run (F := Tz.F) (prim := Tz.prim2) (fl := .no) (by kernel_rfl) g69_flumelaw1_Eq_F (by kernel_rfl))

/-! 70 (*flume.engine.Engine).ticks -/
def g70_engine_Engine_ticks (W0 : BaseF) (cf : CallF) (n : Nat) (t0 : AVal) (H : AHeap) : CallRes :=
 pvK (some (.bool false)) fun t2 =>
 pvK (some t0) fun t3 =>
 outK (callR (cf 60 [t3] H)) CallRes.pan fun t4 Hx1 =>
 pvK (some t4) fun t5 =>
 condK t5
 (pvK (some t0) fun t6 =>
 pvK (xNilCheck [] t6) fun t7 =>
 pvK (xFieldAddr 17 t7) fun t8 =>
 pvK (xLoad1 W0 t8 Hx1) fun t9 =>
 pvK (negB true (eqPtr Hx1 t9 (.ptr none))) fun t10 =>
 pvK (xPick (.bool true) t10 (.bool false)) fun t11 =>
 pvK (some t11) fun t12 =>
 condK t12
 (pvK (some t0) fun t13 =>
 pvK (xNilCheck [] t13) fun t14 =>
 pvK (xFieldAddr 17 t14) fun t15 =>
 pvK (xLoad1 W0 t15 Hx1) fun t16 =>
 pvK (xNilCheck [] t16) fun t17 =>
 pvK (xFieldAddr 6 t17) fun t18 =>
 pvK (xFieldAddr 0 t18) fun t19 =>
 pvK (xLoad1 W0 t19 Hx1) fun t20 =>
 pvK (negB false (eqNum t20 (.int .i64 6))) fun t21 =>
 pvK (xPick (.bool true) t21 (.bool false)) fun t22 =>
 pvK (some t22) fun t23 =>
 condK t23
 (pvK (some t0) fun t24 =>
 pvK (some t0) fun t25 =>
 pvK (xNilCheck [] t25) fun t26 =>
 pvK (xFieldAddr 11 t26) fun t27 =>
 pvK (xLoad1 W0 t27 Hx1) fun t28 =>
 outK (callR (cf 68 [t28] Hx1)) CallRes.pan fun t29 Hx2 =>
 outK (callR (cf 71 [t24, t29] Hx2)) CallRes.pan fun t30 Hx3 =>
 pvK (xField1 0 t30) fun t31 =>
 pvK (unA .not t31) fun t32 =>
 pvK (xPick (.bool true) t32 (.bool false)) fun t33 =>
 pvK (some t33) fun t2x1 =>
 .ret t2x1 Hx3)
 (pvK (xPick (.bool false) AVal.undef (.bool false)) fun _ =>
 pvK (some (.bool false)) fun _ =>
 .ret (.bool false) Hx1))
 (pvK (xPick (.bool false) AVal.undef (.bool false)) fun _ =>
 pvK (some (.bool false)) fun _ =>
 pvK (xPick (.bool false) AVal.undef (.bool false)) fun _ =>
 pvK (some (.bool false)) fun _ =>
 .ret (.bool false) Hx1))
 (pvK (xPick (.bool false) AVal.undef (.bool false)) fun _ =>
 pvK (some (.bool false)) fun _ =>
 pvK (xPick (.bool false) AVal.undef (.bool false)) fun _ =>
 pvK (some (.bool false)) fun _ =>
 pvK (xPick (.bool false) AVal.undef (.bool false)) fun _ =>
 pvK (some (.bool false)) fun _ =>
 .ret (.bool false) Hx1)

def g70_engine_Engine_ticks_c : ACode := match Tz.F 70 with | some fn => fn.body | none => .stop
theorem g70_engine_Engine_ticks_F : Tz.F 70 = some ⟨34, g70_engine_Engine_ticks_c, [.t (Path.of 2)]⟩ := by kernel_rfl
def g70_engine_Engine_ticks_kr (W0 : BaseF) (cf : CallF) (n : Nat) : KN := fun T D H => leaveK (leaveA Tz.F W0 cf n D .ret H) fun H => resC (resA W0 T H [.t (Path.of 2)]) H
def g70_engine_Engine_ticks_kp (W0 : BaseF) (cf : CallF) (n : Nat) : KP := fun v T D H => leaveK (leaveA Tz.F W0 cf n D (.pan v false) H) fun H => resC (resA W0 T H [.t (Path.of 2)]) H
theorem g70_engine_Engine_ticks_k (W0 : BaseF) (cf : CallF) (n : Nat) (t0 : AVal) (H : AHeap) : Below (g70_engine_Engine_ticks W0 cf n t0 H) (codeK W0 cf n (g70_engine_Engine_ticks_kr W0 cf n) (g70_engine_Engine_ticks_kp W0 cf n) g70_engine_Engine_ticks_c .no (fun _ _ _ _ => .stuck) (g70_engine_Engine_ticks_kr W0 cf n) (frameOf [t0]) [] H) := Below.of_eq (by kernel_rfl)
theorem g70_engine_Engine_ticks_ok (W0 : BaseF) (n : Nat) (t0 : AVal) (H : AHeap) : Below (g70_engine_Engine_ticks W0 (acall Tz.F W0 Tz.prim2 n) n t0 H) (acall Tz.F W0 Tz.prim2 (n + 1) 70 [t0] H) :=
  Below.trans (g70_engine_Engine_ticks_k W0 _ n t0 H) (callK_run (F := Tz.F) (prim := Tz.prim2) (fl := .no) (by kernel_rfl) g70_engine_Engine_ticks_F (by kernel_rfl))

end
end Am
