/- The abstract machine: the room on a disk. -/
import Derived.Test.YtbhmnhgljlmafaaGreatMg
import Derived.Test.YtbhmnhgljlmafaaGreatMha
set_option linter.all false

namespace Am
open Go Go.Proofs

variable {B : Nat} {ι ι' : Iota} {W0 w w' : World} {H H' : AHeap} {W0f : BaseF}

/-- how long the slice is that a file begins with -/
def roomLen (H : AHeap) (e : AVal × AVal) : Option Nat := match e.2 with
  | .ptr (some p) => match p.blk with
    | .loc _ => match read1 (fun _ => none) H p with
      | some (.slice _ n _) => some n
      | _ => none
    | _ => none
  | _ => none

def roomSum (H : AHeap) : List (AVal × AVal) → Option Nat
  | [] => some 0
  | e :: es => match roomLen H e, roomSum H es with
    | some n, some m => some (n + m)
    | _, _ => none

def pRoom.iMax (x : Int) : Int := match x with
  | .ofNat n => .ofNat n
  | .negSucc _ => 0

def pRoom (args : List AVal) (H : AHeap) : CallRes := match args with
  | [.ptr (some p)] => match p.blk with
    | .loc _ => match read1 (fun _ => none) H (p.add 2), read1 (fun _ => none) H (p.add 3) with
      | some (.int .i64 most), some (.map (some i)) => match H.get i with
        | some (.map es) => bif es.all isStrKey && iEq (w64 most) most then match roomSum H es with
            | some s => .ret (.int .i64 (pRoom.iMax (w64 (most - s)))) H
            | none => .stuck
          else .stuck
        | _ => .stuck
      | _, _ => .stuck
    | _ => .stuck
  | _ => .stuck

end Am
