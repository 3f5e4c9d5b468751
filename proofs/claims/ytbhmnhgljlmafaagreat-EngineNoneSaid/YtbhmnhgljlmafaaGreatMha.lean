/- part -/
import Derived.Tactics
import Derived.Tactics2
import Derived.StillTactics
import Derived.Laws.AppendOwn
import Derived.Laws.Runes
import Derived.Laws.CopyRow
import Derived.Laws.Shifts
import Derived.Laws.Rows
import Derived.Laws.BitsLemmas
import Derived.Laws.Tables
import Derived.Laws.NewBlocks
import Derived.Laws.Unary
import Derived.Laws.Strings
import Derived.Laws.NewFold
import Derived.Laws.ShiftsVarLaws
import Derived.Laws.Bits
import Derived.Laws.Alloc2
import Derived.Laws.Bits128
import Derived.Laws.Strings2
import Derived.Laws.Wrap64
import Derived.Laws.ShiftsVar
import Derived.Laws.Closers25
import Derived.Laws.RangeString
import Derived.Laws.Concat
import Derived.Laws.Cells
import Derived.Laws.NewDeep
import Derived.Laws.Pointers
import Derived.Laws.StructEq
import Derived.Laws.Closers25b
import Derived.Laws.StandIn
import Derived.Laws.Bits64b
import Derived.Laws.LoneSync
import Derived.Laws.ByValue
import Derived.Laws.MathBits
import Derived.Laws.Externs
import Derived.Laws.BitsAll
import Derived.Laws.BitsAllLaws
import Derived.Laws.Bits64
import Derived.Laws.OwnMore
import Derived.Laws.Build
import Derived.Laws.ResultCell
import Derived.Laws.Entries
import Derived.Laws.Append
import Derived.Laws.RangeAny
import Derived.Laws.World
import Derived.Laws.Strings3
import Derived.Laws.Sem
import Derived.Laws.Slices
import Derived.Laws.MakeOwn
import Derived.Laws.Small
import Derived.Laws.BytesString
import Derived.Scope
import Derived.FnLit
import Derived.LoopTactic
import Derived.LoopN
import Derived.Laws.IdiomRangeMap
import Derived.Test.YtbhmnhgljlmafaaGreatProg
set_option linter.all false

namespace Go.Proofs

def w64 (x : Int) : Int := (x + 9223372036854775808) % 18446744073709551616 - 9223372036854775808

def roomVal (w : World) (e : MapEntry) : Int := match e.val with
  | .pointer (some z) => match w.cell? z with
    | some (.slice _ n _) => n
    | _ => 0
  | _ => 0
def roomE (w : World) (e : MapEntry) : MapEntry := { e with val := .int .i32 (roomVal w e) }

theorem alike_cell {w w' : World} (h : w'.Alike w) (z : Addr) : w'.cell? z = w.cell? z := by
  unfold World.cell?
  rw [h.1]

set_option maxRecDepth 1000000 in
theorem Tryz.room (b o bm : Nat) (es : Array MapEntry) (clock : Nat) (most : Int) (w : World) (h2 : w.cell? ⟨b, o + 2, none⟩ = some (.int .i64 most)) (h3 : w.cell? ⟨b, o + 3, none⟩ = some (.map (some bm)))
    (hm : w64 most = most) (hb : w.heap[bm]? = some (.map es clock)) (hst : MapKept.Stamped es clock) (hv : ∀ x ∈ es.toList, ∃ g p s n c, x.val = .pointer (some ⟨g, p, none⟩) ∧ w.cell? ⟨g, p, none⟩ = some (.slice s n c)) :
    Calls Tryz.prog 374 #[.pointer (some ⟨b, o, none⟩)] w fun e w' => e = .returned (.int .i64 (max 0 (w64 (most - (es.toList.map (roomVal w)).sum)))) ∧ ∃ (w1 : World) (seen : Array Nat), w1.Alike w ∧ w' = w1.alloc (.mapIter (some bm) clock seen clock) := by
  have hrg := run_range_map (P := Tryz.prog) w 157 9 221 bm es clock Tryz.underlying157 hb
  go_enter Tryz.func374, Tryz.ntmps374
  go_wp2
  go_loopw [3] (fun s w' => ∃ (w1 : World) (seen : Array Nat), w1.Alike w ∧ w' = w1.alloc (.mapIter (some bm) clock seen clock) ∧ s = .int .i64 (w64 (most - seenSum (es.toList.map (roomE w)) seen))) (fun _ w' => (leftOf es (w'.iterSeen w.heap.size)).size)
  case atStart => exact ⟨w, #[], ⟨rfl, rfl, rfl⟩, rfl, by rw [seenSum_none]; simp [hm]⟩
  case round =>
    obtain ⟨w1, seen, hal, rfl, rfl⟩ := hrel
    have hsz : w1.heap.size = w.heap.size := by rw [hal.1]
    have hb1 : w1.heap[bm]? = some (.map es clock) := by rw [hal.1]; exact hb
    have law := run_next_map (P := Tryz.prog) w1 0 bm clock clock seen es clock hb1 hst.1 (Nat.le_refl _)
    rw [hsz] at law
    rcases law with ⟨h0, hrun⟩ | ⟨e, he, w2, hal2, hrun⟩
    · have hnx : ∀ ty, (Instr.next (.pointer (some ⟨w.heap.size, 0, none⟩)) false ty).run Tryz.prog (w1.alloc (.mapIter (some bm) clock seen clock)) = _ := fun _ => hrun
      go_wp2
      all_goals
        have hall := seenSum_full seen (es.toList.map (roomE w)) (fun x hx => by
          obtain ⟨y, hy, rfl⟩ := List.mem_map.1 hx
          show seen.contains y.born = true
          cases q : seen.contains y.born with
          | true => rfl
          | false =>
            exfalso
            have hm : y ∈ (leftOf es seen).toList := Array.mem_toList_iff.2 (Array.mem_filter.2 ⟨Array.mem_toList_iff.1 hy, by rw [q]; rfl⟩)
            have := List.length_pos_of_mem hm
            rw [Array.length_toList] at this; omega)
        have hsum : ((es.toList.map (roomE w)).map fun e => valOf e.val) = es.toList.map (roomVal w) := by
          rw [List.map_map]; rfl
        rw [hsum] at hall
        go_ret
        refine ⟨?_, w1, hal, seen, rfl⟩
        rw [← hall]
        first
          | (show Ending.returned (.int .i64 0) = _; rw [Int.max_eq_left (by omega)])
          | (show Ending.returned (.int .i64 (w64 (most - seenSum (List.map (roomE w) es.toList) seen))) = _; rw [Int.max_eq_right (by omega)])
    · obtain ⟨g, p, s0, n, c, hval, hcell⟩ := hv e (mem_left he).1
      rw [hval] at hrun
      have hnx : ∀ ty, (Instr.next (.pointer (some ⟨w.heap.size, 0, none⟩)) false ty).run Tryz.prog (w1.alloc (.mapIter (some bm) clock seen clock)) = _ := fun _ => hrun
      have hsz2 : w2.heap.size = w.heap.size := by rw [hal2.1, hal.1]
      have hb2 : w2.heap[bm]? = some (.map es clock) := by rw [hal2.1]; exact hb1
      have hen := run_entry_map (P := Tryz.prog) w2 bm clock seen es clock e hb2 (mem_left he).1 hst.2.1
      rw [hsz2, hval] at hen
      have hc3 : (w2.alloc (.mapIter (some bm) clock (seen.push e.born) clock)).cell? ⟨g, p, none⟩ = some (.slice s0 n c) := by
        have hc2 : w2.cell? ⟨g, p, none⟩ = some (.slice s0 n c) := by rw [alike_cell (w := w1) hal2, alike_cell hal]; exact hcell
        have hlt : g < w2.heap.size := by
          rcases Nat.lt_or_ge g w2.heap.size with q | q
          · exact q
          · simp [World.cell?, Array.getElem?_eq_none q] at hc2
        unfold World.cell? at hc2 ⊢
        rw [heap_alloc_old _ _ hlt]
        exact hc2
      have hc2 : w2.cell? ⟨g, p, none⟩ = some (.slice s0 n c) := by rw [alike_cell (w := w1) hal2, alike_cell hal]; exact hcell
      go_wp2
      go_roundw
      case rel =>
        refine ⟨w2, seen.push e.born, ⟨hal2.1.trans hal.1, hal2.2.1.trans hal.2.1, hal2.2.2.trans hal.2.2⟩, rfl, ?_⟩
        have hp := seenSum_push seen (roomE w e) (mem_left he).2 (es.toList.map (roomE w)) (by rw [List.map_map]; exact hst.2.1) (List.mem_map_of_mem (mem_left he).1)
        have hval2 : valOf (roomE w e).val = n := by simp [roomE, roomVal, hval, hcell, valOf]
        rw [hval2] at hp
        change seenSum _ (seen.push e.born) = _ at hp
        rw [hp]
        have e3 : ∀ x : Int, (w64 x - n + 9223372036854775808) % 18446744073709551616 - 9223372036854775808 = w64 (x - n) := fun x => by
          simp only [w64]
          omega
        rw [← Int.sub_sub, ← e3]
      case measure =>
        rw [← hsz2, World.iterSeen_alloc, hsz2, ← hsz, World.iterSeen_alloc]
        exact left_shrinks es seen e he
end Go.Proofs
