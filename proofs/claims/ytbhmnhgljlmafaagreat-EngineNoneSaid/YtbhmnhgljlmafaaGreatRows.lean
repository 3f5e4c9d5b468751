/-
  No cell of these rows narrows 'for every input' (looked for: loops, veiled, ifaces, maps, wideKeys, modest, calm, conditions, laid).
  DERIVED. THE GIVEN ROWS OF THIS SEAT. 12 by the template 'for every input the law returns true; each argument reads behind the call as it read before'; 0 by the template 'total and deterministic' (their statements: YtbhmnhgljlmafaaGreatTotals.lean).
  GIVEN WITH THE SEED: the statements are not yours to turn. If you find one false, say at which input.
  Laid BY PROGRAM, IN A SANDBOX (cutbox-rows.mjs): the forced cells as the released guide's own fill.sh prints them over the translation 4f864268339e518d… (all of the seat's roots in one cut). By AI agents, Wed Nov 11 2026. No macro, syntax, notation, axiom, sorry.
-/
import Derived.Test.YtbhmnhgljlmafaaGreatChecked
import GoSem.Claim
import GoSem.ClaimJoined
import GoSem.ClaimMapViews
import Derived.JoinedTies
import Derived.KernelRfl
namespace Go.Proofs.YtbhmnhgljlmafaaGreat
/- THE CELL 'sum', in the pinned program and in every row, IS THE sha256 OF THE DUMP (.gsa) THAT YtbhmnhgljlmafaaGreatProg.lean LOADS. Nothing in Lean hashes anything: it is a label: what it is worth is what the hold of that sum in a sandbox is worth. -/
noncomputable def Tryz.pinned : Pinned := { name := "ytbhmnhgljlmafaagreat", sum := "4f864268339e518dc9af1ddbb7445262e456862b86c3c60f19d64f29c728a7e2", checked := Tryz.checked }
namespace Rows
def none {H : Type} : Left H := { results := [], args := [] }

/-- 'flumelaw21.EngineAsyncs': WHATEVER THE INPUT: true; the input reads as it did. -/
def engineAsyncsSpec : ChangeSpec := { name := "engineAsyncs", fn := fun _ => fun
  | [d1, d2, d3] => { results := [.lit (.bool true)], args := [d1, d2, d3] }
  | _ => none }
def engineAsyncsRow : OpenClaim := { program := "ytbhmnhgljlmafaagreat", sum := "4f864268339e518dc9af1ddbb7445262e456862b86c3c60f19d64f29c728a7e2", func := "flume/flumelaw21.EngineAsyncs", spec := "engineAsyncs", inPlace := ["math.Float64bits", "math.Float64frombits", "math.archCeil", "math.archFloor", "math.archTrunc"], unfollowed := true, recurses := true, apart := false }
def EngineAsyncsSaid : Prop := engineAsyncsRow.holds Tryz.pinned (OpenSpec.ofChange engineAsyncsSpec)

/-- ITS FALSE NEIGHBOUR: 'it returns false'. Refute it at one input. -/
def engineAsyncsWrong : ChangeSpec := { name := "engineAsyncs", fn := fun _ => fun
  | [d1, d2, d3] => { results := [.lit (.bool false)], args := [d1, d2, d3] }
  | _ => none }
def EngineAsyncsWrongFalsely : Prop := engineAsyncsRow.holds Tryz.pinned (OpenSpec.ofChange engineAsyncsWrong)

/-- 'flumelaw21.EngineCloses': WHATEVER THE INPUT: true; the input reads as it did. -/
def engineClosesSpec : ChangeSpec := { name := "engineCloses", fn := fun _ => fun
  | [d1, d2, d3] => { results := [.lit (.bool true)], args := [d1, d2, d3] }
  | _ => none }
def engineClosesRow : OpenClaim := { program := "ytbhmnhgljlmafaagreat", sum := "4f864268339e518dc9af1ddbb7445262e456862b86c3c60f19d64f29c728a7e2", func := "flume/flumelaw21.EngineCloses", spec := "engineCloses", inPlace := ["math.Float64bits", "math.Float64frombits", "math.archCeil", "math.archFloor", "math.archTrunc"], unfollowed := true, recurses := true, apart := false }
def EngineClosesSaid : Prop := engineClosesRow.holds Tryz.pinned (OpenSpec.ofChange engineClosesSpec)

/-- ITS FALSE NEIGHBOUR: 'it returns false'. Refute it at one input. -/
def engineClosesWrong : ChangeSpec := { name := "engineCloses", fn := fun _ => fun
  | [d1, d2, d3] => { results := [.lit (.bool false)], args := [d1, d2, d3] }
  | _ => none }
def EngineClosesWrongFalsely : Prop := engineClosesRow.holds Tryz.pinned (OpenSpec.ofChange engineClosesWrong)

/-- 'flumelaw21.EngineGroup': WHATEVER THE INPUT: true; the input reads as it did. -/
def engineGroupSpec : ChangeSpec := { name := "engineGroup", fn := fun _ => fun
  | [d1, d2] => { results := [.lit (.bool true)], args := [d1, d2] }
  | _ => none }
def engineGroupRow : OpenClaim := { program := "ytbhmnhgljlmafaagreat", sum := "4f864268339e518dc9af1ddbb7445262e456862b86c3c60f19d64f29c728a7e2", func := "flume/flumelaw21.EngineGroup", spec := "engineGroup", inPlace := ["math.Float64bits", "math.Float64frombits", "math.archCeil", "math.archFloor", "math.archTrunc"], unfollowed := true, recurses := true, apart := false }
def EngineGroupSaid : Prop := engineGroupRow.holds Tryz.pinned (OpenSpec.ofChange engineGroupSpec)

/-- ITS FALSE NEIGHBOUR: 'it returns false'. Refute it at one input. -/
def engineGroupWrong : ChangeSpec := { name := "engineGroup", fn := fun _ => fun
  | [d1, d2] => { results := [.lit (.bool false)], args := [d1, d2] }
  | _ => none }
def EngineGroupWrongFalsely : Prop := engineGroupRow.holds Tryz.pinned (OpenSpec.ofChange engineGroupWrong)

/-- 'flumelaw21.EngineNone': WHATEVER THE INPUT: true; the input reads as it did. -/
def engineNoneSpec : ChangeSpec := { name := "engineNone", fn := fun _ => fun
  | [d1, d2, d3] => { results := [.lit (.bool true)], args := [d1, d2, d3] }
  | _ => none }
def engineNoneRow : OpenClaim := { program := "ytbhmnhgljlmafaagreat", sum := "4f864268339e518dc9af1ddbb7445262e456862b86c3c60f19d64f29c728a7e2", func := "flume/flumelaw21.EngineNone", spec := "engineNone", inPlace := ["math.Float64bits", "math.Float64frombits", "math.archCeil", "math.archFloor", "math.archTrunc"], unfollowed := true, recurses := true, apart := false }
def EngineNoneSaid : Prop := engineNoneRow.holds Tryz.pinned (OpenSpec.ofChange engineNoneSpec)

/-- ITS FALSE NEIGHBOUR: 'it returns false'. Refute it at one input. -/
def engineNoneWrong : ChangeSpec := { name := "engineNone", fn := fun _ => fun
  | [d1, d2, d3] => { results := [.lit (.bool false)], args := [d1, d2, d3] }
  | _ => none }
def EngineNoneWrongFalsely : Prop := engineNoneRow.holds Tryz.pinned (OpenSpec.ofChange engineNoneWrong)

/-- 'flumelaw21.EngineLingers': WHATEVER THE INPUT: true; the input reads as it did. -/
def engineLingersSpec : ChangeSpec := { name := "engineLingers", fn := fun _ => fun
  | [d1, d2, d3] => { results := [.lit (.bool true)], args := [d1, d2, d3] }
  | _ => none }
def engineLingersRow : OpenClaim := { program := "ytbhmnhgljlmafaagreat", sum := "4f864268339e518dc9af1ddbb7445262e456862b86c3c60f19d64f29c728a7e2", func := "flume/flumelaw21.EngineLingers", spec := "engineLingers", inPlace := ["math.Float64bits", "math.Float64frombits", "math.archCeil", "math.archFloor", "math.archTrunc"], unfollowed := true, recurses := true, apart := false }
def EngineLingersSaid : Prop := engineLingersRow.holds Tryz.pinned (OpenSpec.ofChange engineLingersSpec)

/-- ITS FALSE NEIGHBOUR: 'it returns false'. Refute it at one input. -/
def engineLingersWrong : ChangeSpec := { name := "engineLingers", fn := fun _ => fun
  | [d1, d2, d3] => { results := [.lit (.bool false)], args := [d1, d2, d3] }
  | _ => none }
def EngineLingersWrongFalsely : Prop := engineLingersRow.holds Tryz.pinned (OpenSpec.ofChange engineLingersWrong)

/-- 'flumelaw21.EngineWrites': WHATEVER THE INPUT: true; the input reads as it did. -/
def engineWritesSpec : ChangeSpec := { name := "engineWrites", fn := fun _ => fun
  | [d1, d2, d3] => { results := [.lit (.bool true)], args := [d1, d2, d3] }
  | _ => none }
def engineWritesRow : OpenClaim := { program := "ytbhmnhgljlmafaagreat", sum := "4f864268339e518dc9af1ddbb7445262e456862b86c3c60f19d64f29c728a7e2", func := "flume/flumelaw21.EngineWrites", spec := "engineWrites", inPlace := ["math.Float64bits", "math.Float64frombits", "math.archCeil", "math.archFloor", "math.archTrunc"], unfollowed := true, recurses := true, apart := false }
def EngineWritesSaid : Prop := engineWritesRow.holds Tryz.pinned (OpenSpec.ofChange engineWritesSpec)

/-- ITS FALSE NEIGHBOUR: 'it returns false'. Refute it at one input. -/
def engineWritesWrong : ChangeSpec := { name := "engineWrites", fn := fun _ => fun
  | [d1, d2, d3] => { results := [.lit (.bool false)], args := [d1, d2, d3] }
  | _ => none }
def EngineWritesWrongFalsely : Prop := engineWritesRow.holds Tryz.pinned (OpenSpec.ofChange engineWritesWrong)

/-- 'flumelaw21.EngineBounds': WHATEVER THE INPUT: true; the input reads as it did. -/
def engineBoundsSpec : ChangeSpec := { name := "engineBounds", fn := fun _ => fun
  | [d1, d2, d3, d4] => { results := [.lit (.bool true)], args := [d1, d2, d3, d4] }
  | _ => none }
def engineBoundsRow : OpenClaim := { program := "ytbhmnhgljlmafaagreat", sum := "4f864268339e518dc9af1ddbb7445262e456862b86c3c60f19d64f29c728a7e2", func := "flume/flumelaw21.EngineBounds", spec := "engineBounds", inPlace := ["math.Float64bits", "math.Float64frombits", "math.archCeil", "math.archFloor", "math.archTrunc"], unfollowed := true, recurses := true, apart := false }
def EngineBoundsSaid : Prop := engineBoundsRow.holds Tryz.pinned (OpenSpec.ofChange engineBoundsSpec)

/-- ITS FALSE NEIGHBOUR: 'it returns false'. Refute it at one input. -/
def engineBoundsWrong : ChangeSpec := { name := "engineBounds", fn := fun _ => fun
  | [d1, d2, d3, d4] => { results := [.lit (.bool false)], args := [d1, d2, d3, d4] }
  | _ => none }
def EngineBoundsWrongFalsely : Prop := engineBoundsRow.holds Tryz.pinned (OpenSpec.ofChange engineBoundsWrong)

/-- 'flumelaw21.EngineAll': WHATEVER THE INPUT: true; the input reads as it did. -/
def engineAllSpec : ChangeSpec := { name := "engineAll", fn := fun _ => fun
  | [d1, d2, d3, d4] => { results := [.lit (.bool true)], args := [d1, d2, d3, d4] }
  | _ => none }
def engineAllRow : OpenClaim := { program := "ytbhmnhgljlmafaagreat", sum := "4f864268339e518dc9af1ddbb7445262e456862b86c3c60f19d64f29c728a7e2", func := "flume/flumelaw21.EngineAll", spec := "engineAll", inPlace := ["math.Float64bits", "math.Float64frombits", "math.archCeil", "math.archFloor", "math.archTrunc"], unfollowed := true, recurses := true, apart := false }
def EngineAllSaid : Prop := engineAllRow.holds Tryz.pinned (OpenSpec.ofChange engineAllSpec)

/-- ITS FALSE NEIGHBOUR: 'it returns false'. Refute it at one input. -/
def engineAllWrong : ChangeSpec := { name := "engineAll", fn := fun _ => fun
  | [d1, d2, d3, d4] => { results := [.lit (.bool false)], args := [d1, d2, d3, d4] }
  | _ => none }
def EngineAllWrongFalsely : Prop := engineAllRow.holds Tryz.pinned (OpenSpec.ofChange engineAllWrong)

/-- 'flumelaw22.WalCursors': WHATEVER THE INPUT: true; the input reads as it did. -/
def walCursorsSpec : ChangeSpec := { name := "walCursors", fn := fun _ => fun
  | [d1, d2, d3] => { results := [.lit (.bool true)], args := [d1, d2, d3] }
  | _ => none }
def walCursorsRow : OpenClaim := { program := "ytbhmnhgljlmafaagreat", sum := "4f864268339e518dc9af1ddbb7445262e456862b86c3c60f19d64f29c728a7e2", func := "flume/flumelaw22.WalCursors", spec := "walCursors", inPlace := ["math.Float64bits", "math.Float64frombits", "(*internal/sync.Mutex).Lock", "internal/race.Disable", "sync/atomic.CompareAndSwapInt32", "internal/race.Enable", "internal/race.Acquire", "(*internal/sync.Mutex).lockSlow", "internal/sync.runtime_canSpin", "internal/sync.runtime_doSpin", "internal/sync.throw", "internal/sync.runtime_nanotime", "internal/sync.runtime_SemacquireMutex", "sync/atomic.AddInt32", "(*internal/sync.Mutex).Unlock", "internal/race.ReleaseMerge", "(*internal/sync.Mutex).unlockSlow", "internal/sync.fatal", "internal/sync.runtime_Semrelease", "math.archCeil", "math.archFloor", "math.archTrunc"], unfollowed := true, recurses := true, apart := false }
def WalCursorsSaid : Prop := walCursorsRow.holds Tryz.pinned (OpenSpec.ofChange walCursorsSpec)

/-- ITS FALSE NEIGHBOUR: 'it returns false'. Refute it at one input. -/
def walCursorsWrong : ChangeSpec := { name := "walCursors", fn := fun _ => fun
  | [d1, d2, d3] => { results := [.lit (.bool false)], args := [d1, d2, d3] }
  | _ => none }
def WalCursorsWrongFalsely : Prop := walCursorsRow.holds Tryz.pinned (OpenSpec.ofChange walCursorsWrong)

/-- 'flumelaw22.WalNone': WHATEVER THE INPUT: true; the input reads as it did. -/
def walNoneSpec : ChangeSpec := { name := "walNone", fn := fun _ => fun
  | [d1, d2] => { results := [.lit (.bool true)], args := [d1, d2] }
  | _ => none }
def walNoneRow : OpenClaim := { program := "ytbhmnhgljlmafaagreat", sum := "4f864268339e518dc9af1ddbb7445262e456862b86c3c60f19d64f29c728a7e2", func := "flume/flumelaw22.WalNone", spec := "walNone", inPlace := ["math.Float64bits", "math.Float64frombits", "(*internal/sync.Mutex).Lock", "internal/race.Disable", "sync/atomic.CompareAndSwapInt32", "internal/race.Enable", "internal/race.Acquire", "(*internal/sync.Mutex).lockSlow", "internal/sync.runtime_canSpin", "internal/sync.runtime_doSpin", "internal/sync.throw", "internal/sync.runtime_nanotime", "internal/sync.runtime_SemacquireMutex", "sync/atomic.AddInt32", "(*internal/sync.Mutex).Unlock", "internal/race.ReleaseMerge", "(*internal/sync.Mutex).unlockSlow", "internal/sync.fatal", "internal/sync.runtime_Semrelease", "math.archCeil", "math.archFloor", "math.archTrunc"], unfollowed := true, recurses := true, apart := false }
def WalNoneSaid : Prop := walNoneRow.holds Tryz.pinned (OpenSpec.ofChange walNoneSpec)

/-- ITS FALSE NEIGHBOUR: 'it returns false'. Refute it at one input. -/
def walNoneWrong : ChangeSpec := { name := "walNone", fn := fun _ => fun
  | [d1, d2] => { results := [.lit (.bool false)], args := [d1, d2] }
  | _ => none }
def WalNoneWrongFalsely : Prop := walNoneRow.holds Tryz.pinned (OpenSpec.ofChange walNoneWrong)

/-- 'flumelaw22.WalTail': WHATEVER THE INPUT: true; the input reads as it did. -/
def walTailSpec : ChangeSpec := { name := "walTail", fn := fun _ => fun
  | [d1, d2, d3, d4] => { results := [.lit (.bool true)], args := [d1, d2, d3, d4] }
  | _ => none }
def walTailRow : OpenClaim := { program := "ytbhmnhgljlmafaagreat", sum := "4f864268339e518dc9af1ddbb7445262e456862b86c3c60f19d64f29c728a7e2", func := "flume/flumelaw22.WalTail", spec := "walTail", inPlace := ["math.Float64bits", "math.Float64frombits", "(*internal/sync.Mutex).Lock", "internal/race.Disable", "sync/atomic.CompareAndSwapInt32", "internal/race.Enable", "internal/race.Acquire", "(*internal/sync.Mutex).lockSlow", "internal/sync.runtime_canSpin", "internal/sync.runtime_doSpin", "internal/sync.throw", "internal/sync.runtime_nanotime", "internal/sync.runtime_SemacquireMutex", "sync/atomic.AddInt32", "(*internal/sync.Mutex).Unlock", "internal/race.ReleaseMerge", "(*internal/sync.Mutex).unlockSlow", "internal/sync.fatal", "internal/sync.runtime_Semrelease", "math.archCeil", "math.archFloor", "math.archTrunc"], unfollowed := true, recurses := true, apart := false }
def WalTailSaid : Prop := walTailRow.holds Tryz.pinned (OpenSpec.ofChange walTailSpec)

/-- ITS FALSE NEIGHBOUR: 'it returns false'. Refute it at one input. -/
def walTailWrong : ChangeSpec := { name := "walTail", fn := fun _ => fun
  | [d1, d2, d3, d4] => { results := [.lit (.bool false)], args := [d1, d2, d3, d4] }
  | _ => none }
def WalTailWrongFalsely : Prop := walTailRow.holds Tryz.pinned (OpenSpec.ofChange walTailWrong)

/-- 'flumelaw22.WalCloses': WHATEVER THE INPUT: true; the input reads as it did. -/
def walClosesSpec : ChangeSpec := { name := "walCloses", fn := fun _ => fun
  | [d1, d2, d3, d4] => { results := [.lit (.bool true)], args := [d1, d2, d3, d4] }
  | _ => none }
def walClosesRow : OpenClaim := { program := "ytbhmnhgljlmafaagreat", sum := "4f864268339e518dc9af1ddbb7445262e456862b86c3c60f19d64f29c728a7e2", func := "flume/flumelaw22.WalCloses", spec := "walCloses", inPlace := ["math.Float64bits", "math.Float64frombits", "(*internal/sync.Mutex).Lock", "internal/race.Disable", "sync/atomic.CompareAndSwapInt32", "internal/race.Enable", "internal/race.Acquire", "(*internal/sync.Mutex).lockSlow", "internal/sync.runtime_canSpin", "internal/sync.runtime_doSpin", "internal/sync.throw", "internal/sync.runtime_nanotime", "internal/sync.runtime_SemacquireMutex", "sync/atomic.AddInt32", "(*internal/sync.Mutex).Unlock", "internal/race.ReleaseMerge", "(*internal/sync.Mutex).unlockSlow", "internal/sync.fatal", "internal/sync.runtime_Semrelease", "math.archCeil", "math.archFloor", "math.archTrunc"], unfollowed := true, recurses := true, apart := false }
def WalClosesSaid : Prop := walClosesRow.holds Tryz.pinned (OpenSpec.ofChange walClosesSpec)

/-- ITS FALSE NEIGHBOUR: 'it returns false'. Refute it at one input. -/
def walClosesWrong : ChangeSpec := { name := "walCloses", fn := fun _ => fun
  | [d1, d2, d3, d4] => { results := [.lit (.bool false)], args := [d1, d2, d3, d4] }
  | _ => none }
def WalClosesWrongFalsely : Prop := walClosesRow.holds Tryz.pinned (OpenSpec.ofChange walClosesWrong)

/- THE SECOND FORM. 'bulk': how many values and letters a reading holds, each counted each time it is reached (what is shared counts as often as it is met; a slice's spare places count too). A statement '..UptoSaid' is the law's where the arguments, and the package variables that the reading takes, are together of bulk at most 1048576: NARROWER than '..Said'. Prove '..Said' where nothing that the law and all that it calls make is longer than what came in: it says more and counts as full. Else prove '..UptoSaid'. A law counts once. -/
mutual
def uptoBulk {H : Type} : DataW H → Nat
  | .lit (.string bytes) => bytes.length + 1
  | .lit _ => 1
  | .nil => 1
  | .ptr d => uptoBulk d + 1
  | .slice elems spare => uptoBulkAll elems + uptoBulkAll spare + 1
  | .agg parts => uptoBulkAll parts + 1
  | .iface _ d => uptoBulk d + 1
  | .map entries => uptoBulkEntries entries + 1
  | .held _ => 1
def uptoBulkAll {H : Type} : List (DataW H) → Nat
  | [] => 0
  | d :: r => uptoBulk d + uptoBulkAll r
def uptoBulkEntries {H : Type} : List (Lit × DataW H) → Nat
  | [] => 0
  | x :: r => uptoBulkEntry x + uptoBulkEntries r
def uptoBulkEntry {H : Type} : Lit × DataW H → Nat
  | (.string bytes, d) => bytes.length + uptoBulk d + 1
  | (_, d) => uptoBulk d + 1
 end
def uptoSmall : (H : Type) → List (DataW H) → Bool := fun _ ds => decide (uptoBulkAll ds ≤ 1048576)
def OpenSpec.upto (s : _root_.Go.ChangeSpec) : _root_.Go.OpenSpec := { _root_.Go.OpenSpec.ofChange s with cond := some uptoSmall }

/-- 'flumelaw21.EngineAsyncs', WHERE WHAT IT READS IS OF BULK AT MOST 1048576: true; the input reads as it did. -/
def engineAsyncsUptoRow : OpenClaim := { program := "ytbhmnhgljlmafaagreat", sum := "4f864268339e518dc9af1ddbb7445262e456862b86c3c60f19d64f29c728a7e2", func := "flume/flumelaw21.EngineAsyncs", spec := "engineAsyncs", inPlace := ["math.Float64bits", "math.Float64frombits", "math.archCeil", "math.archFloor", "math.archTrunc"], unfollowed := true, recurses := true, apart := false, narrowed := true }
def EngineAsyncsUptoSaid : Prop := engineAsyncsUptoRow.holds Tryz.pinned (OpenSpec.upto engineAsyncsSpec)

/-- 'flumelaw21.EngineCloses', WHERE WHAT IT READS IS OF BULK AT MOST 1048576: true; the input reads as it did. -/
def engineClosesUptoRow : OpenClaim := { program := "ytbhmnhgljlmafaagreat", sum := "4f864268339e518dc9af1ddbb7445262e456862b86c3c60f19d64f29c728a7e2", func := "flume/flumelaw21.EngineCloses", spec := "engineCloses", inPlace := ["math.Float64bits", "math.Float64frombits", "math.archCeil", "math.archFloor", "math.archTrunc"], unfollowed := true, recurses := true, apart := false, narrowed := true }
def EngineClosesUptoSaid : Prop := engineClosesUptoRow.holds Tryz.pinned (OpenSpec.upto engineClosesSpec)

/-- 'flumelaw21.EngineGroup', WHERE WHAT IT READS IS OF BULK AT MOST 1048576: true; the input reads as it did. -/
def engineGroupUptoRow : OpenClaim := { program := "ytbhmnhgljlmafaagreat", sum := "4f864268339e518dc9af1ddbb7445262e456862b86c3c60f19d64f29c728a7e2", func := "flume/flumelaw21.EngineGroup", spec := "engineGroup", inPlace := ["math.Float64bits", "math.Float64frombits", "math.archCeil", "math.archFloor", "math.archTrunc"], unfollowed := true, recurses := true, apart := false, narrowed := true }
def EngineGroupUptoSaid : Prop := engineGroupUptoRow.holds Tryz.pinned (OpenSpec.upto engineGroupSpec)

/-- 'flumelaw21.EngineNone', WHERE WHAT IT READS IS OF BULK AT MOST 1048576: true; the input reads as it did. -/
def engineNoneUptoRow : OpenClaim := { program := "ytbhmnhgljlmafaagreat", sum := "4f864268339e518dc9af1ddbb7445262e456862b86c3c60f19d64f29c728a7e2", func := "flume/flumelaw21.EngineNone", spec := "engineNone", inPlace := ["math.Float64bits", "math.Float64frombits", "math.archCeil", "math.archFloor", "math.archTrunc"], unfollowed := true, recurses := true, apart := false, narrowed := true }
def EngineNoneUptoSaid : Prop := engineNoneUptoRow.holds Tryz.pinned (OpenSpec.upto engineNoneSpec)

/-- 'flumelaw21.EngineLingers', WHERE WHAT IT READS IS OF BULK AT MOST 1048576: true; the input reads as it did. -/
def engineLingersUptoRow : OpenClaim := { program := "ytbhmnhgljlmafaagreat", sum := "4f864268339e518dc9af1ddbb7445262e456862b86c3c60f19d64f29c728a7e2", func := "flume/flumelaw21.EngineLingers", spec := "engineLingers", inPlace := ["math.Float64bits", "math.Float64frombits", "math.archCeil", "math.archFloor", "math.archTrunc"], unfollowed := true, recurses := true, apart := false, narrowed := true }
def EngineLingersUptoSaid : Prop := engineLingersUptoRow.holds Tryz.pinned (OpenSpec.upto engineLingersSpec)

/-- 'flumelaw21.EngineWrites', WHERE WHAT IT READS IS OF BULK AT MOST 1048576: true; the input reads as it did. -/
def engineWritesUptoRow : OpenClaim := { program := "ytbhmnhgljlmafaagreat", sum := "4f864268339e518dc9af1ddbb7445262e456862b86c3c60f19d64f29c728a7e2", func := "flume/flumelaw21.EngineWrites", spec := "engineWrites", inPlace := ["math.Float64bits", "math.Float64frombits", "math.archCeil", "math.archFloor", "math.archTrunc"], unfollowed := true, recurses := true, apart := false, narrowed := true }
def EngineWritesUptoSaid : Prop := engineWritesUptoRow.holds Tryz.pinned (OpenSpec.upto engineWritesSpec)

/-- 'flumelaw21.EngineBounds', WHERE WHAT IT READS IS OF BULK AT MOST 1048576: true; the input reads as it did. -/
def engineBoundsUptoRow : OpenClaim := { program := "ytbhmnhgljlmafaagreat", sum := "4f864268339e518dc9af1ddbb7445262e456862b86c3c60f19d64f29c728a7e2", func := "flume/flumelaw21.EngineBounds", spec := "engineBounds", inPlace := ["math.Float64bits", "math.Float64frombits", "math.archCeil", "math.archFloor", "math.archTrunc"], unfollowed := true, recurses := true, apart := false, narrowed := true }
def EngineBoundsUptoSaid : Prop := engineBoundsUptoRow.holds Tryz.pinned (OpenSpec.upto engineBoundsSpec)

/-- 'flumelaw21.EngineAll', WHERE WHAT IT READS IS OF BULK AT MOST 1048576: true; the input reads as it did. -/
def engineAllUptoRow : OpenClaim := { program := "ytbhmnhgljlmafaagreat", sum := "4f864268339e518dc9af1ddbb7445262e456862b86c3c60f19d64f29c728a7e2", func := "flume/flumelaw21.EngineAll", spec := "engineAll", inPlace := ["math.Float64bits", "math.Float64frombits", "math.archCeil", "math.archFloor", "math.archTrunc"], unfollowed := true, recurses := true, apart := false, narrowed := true }
def EngineAllUptoSaid : Prop := engineAllUptoRow.holds Tryz.pinned (OpenSpec.upto engineAllSpec)

/-- 'flumelaw22.WalCursors', WHERE WHAT IT READS IS OF BULK AT MOST 1048576: true; the input reads as it did. -/
def walCursorsUptoRow : OpenClaim := { program := "ytbhmnhgljlmafaagreat", sum := "4f864268339e518dc9af1ddbb7445262e456862b86c3c60f19d64f29c728a7e2", func := "flume/flumelaw22.WalCursors", spec := "walCursors", inPlace := ["math.Float64bits", "math.Float64frombits", "(*internal/sync.Mutex).Lock", "internal/race.Disable", "sync/atomic.CompareAndSwapInt32", "internal/race.Enable", "internal/race.Acquire", "(*internal/sync.Mutex).lockSlow", "internal/sync.runtime_canSpin", "internal/sync.runtime_doSpin", "internal/sync.throw", "internal/sync.runtime_nanotime", "internal/sync.runtime_SemacquireMutex", "sync/atomic.AddInt32", "(*internal/sync.Mutex).Unlock", "internal/race.ReleaseMerge", "(*internal/sync.Mutex).unlockSlow", "internal/sync.fatal", "internal/sync.runtime_Semrelease", "math.archCeil", "math.archFloor", "math.archTrunc"], unfollowed := true, recurses := true, apart := false, narrowed := true }
def WalCursorsUptoSaid : Prop := walCursorsUptoRow.holds Tryz.pinned (OpenSpec.upto walCursorsSpec)

/-- 'flumelaw22.WalNone', WHERE WHAT IT READS IS OF BULK AT MOST 1048576: true; the input reads as it did. -/
def walNoneUptoRow : OpenClaim := { program := "ytbhmnhgljlmafaagreat", sum := "4f864268339e518dc9af1ddbb7445262e456862b86c3c60f19d64f29c728a7e2", func := "flume/flumelaw22.WalNone", spec := "walNone", inPlace := ["math.Float64bits", "math.Float64frombits", "(*internal/sync.Mutex).Lock", "internal/race.Disable", "sync/atomic.CompareAndSwapInt32", "internal/race.Enable", "internal/race.Acquire", "(*internal/sync.Mutex).lockSlow", "internal/sync.runtime_canSpin", "internal/sync.runtime_doSpin", "internal/sync.throw", "internal/sync.runtime_nanotime", "internal/sync.runtime_SemacquireMutex", "sync/atomic.AddInt32", "(*internal/sync.Mutex).Unlock", "internal/race.ReleaseMerge", "(*internal/sync.Mutex).unlockSlow", "internal/sync.fatal", "internal/sync.runtime_Semrelease", "math.archCeil", "math.archFloor", "math.archTrunc"], unfollowed := true, recurses := true, apart := false, narrowed := true }
def WalNoneUptoSaid : Prop := walNoneUptoRow.holds Tryz.pinned (OpenSpec.upto walNoneSpec)

/-- 'flumelaw22.WalTail', WHERE WHAT IT READS IS OF BULK AT MOST 1048576: true; the input reads as it did. -/
def walTailUptoRow : OpenClaim := { program := "ytbhmnhgljlmafaagreat", sum := "4f864268339e518dc9af1ddbb7445262e456862b86c3c60f19d64f29c728a7e2", func := "flume/flumelaw22.WalTail", spec := "walTail", inPlace := ["math.Float64bits", "math.Float64frombits", "(*internal/sync.Mutex).Lock", "internal/race.Disable", "sync/atomic.CompareAndSwapInt32", "internal/race.Enable", "internal/race.Acquire", "(*internal/sync.Mutex).lockSlow", "internal/sync.runtime_canSpin", "internal/sync.runtime_doSpin", "internal/sync.throw", "internal/sync.runtime_nanotime", "internal/sync.runtime_SemacquireMutex", "sync/atomic.AddInt32", "(*internal/sync.Mutex).Unlock", "internal/race.ReleaseMerge", "(*internal/sync.Mutex).unlockSlow", "internal/sync.fatal", "internal/sync.runtime_Semrelease", "math.archCeil", "math.archFloor", "math.archTrunc"], unfollowed := true, recurses := true, apart := false, narrowed := true }
def WalTailUptoSaid : Prop := walTailUptoRow.holds Tryz.pinned (OpenSpec.upto walTailSpec)

/-- 'flumelaw22.WalCloses', WHERE WHAT IT READS IS OF BULK AT MOST 1048576: true; the input reads as it did. -/
def walClosesUptoRow : OpenClaim := { program := "ytbhmnhgljlmafaagreat", sum := "4f864268339e518dc9af1ddbb7445262e456862b86c3c60f19d64f29c728a7e2", func := "flume/flumelaw22.WalCloses", spec := "walCloses", inPlace := ["math.Float64bits", "math.Float64frombits", "(*internal/sync.Mutex).Lock", "internal/race.Disable", "sync/atomic.CompareAndSwapInt32", "internal/race.Enable", "internal/race.Acquire", "(*internal/sync.Mutex).lockSlow", "internal/sync.runtime_canSpin", "internal/sync.runtime_doSpin", "internal/sync.throw", "internal/sync.runtime_nanotime", "internal/sync.runtime_SemacquireMutex", "sync/atomic.AddInt32", "(*internal/sync.Mutex).Unlock", "internal/race.ReleaseMerge", "(*internal/sync.Mutex).unlockSlow", "internal/sync.fatal", "internal/sync.runtime_Semrelease", "math.archCeil", "math.archFloor", "math.archTrunc"], unfollowed := true, recurses := true, apart := false, narrowed := true }
def WalClosesUptoSaid : Prop := walClosesUptoRow.holds Tryz.pinned (OpenSpec.upto walClosesSpec)

end Rows
end Go.Proofs.YtbhmnhgljlmafaaGreat
