/- The abstract machine: the room on a disk: what a call comes to. -/
import Derived.Test.YtbhmnhgljlmafaaGreatMhb
set_option linter.all false

namespace Am
open Go Go.Proofs

variable {B : Nat} {ι ι' : Iota} {W0 w w' : World} {H H' : AHeap}

theorem noBase : BRel B (fun _ => none) W0 := fun b cs h => by simp at h

theorem roomLen_ok (hw : WRel B W0 H ι w) {e : AVal × AVal} {v : Value} {n : Nat} (h : roomLen H e = some n) (hv : vrel B ι e.2 v) :
    ∃ g p s c, v = .pointer (some ⟨g, p, none⟩) ∧ w.cell? ⟨g, p, none⟩ = some (.slice s n c) := by
  unfold roomLen at h
  split at h
  case h_2 => exact absurd h (by simp)
  rename_i p ep
  rw [ep] at hv
  obtain ⟨z, rfl, hz⟩ := vrel_ptr hv
  split at h
  case h_2 => exact absurd h (by simp)
  rename_i i hi
  split at h
  case h_2 => exact absurd h (by simp)
  rename_i a n' c' hr
  simp at h
  subst h
  obtain ⟨v', h1, h2⟩ := read1_ok hw noBase hz hr
  obtain ⟨b, o⟩ := p
  simp only at hi
  subst hi
  obtain ⟨L, eL, rfl⟩ := hz
  obtain ⟨a', l', c'', rfl, hs⟩ := h2
  refine ⟨L.blk, L.sh + o, a', c'', rfl, ?_⟩
  have : l' = n' := by
    cases a with
    | none => exact hs.2.1.trans hs.2.2.1.symm
    | some q =>
      obtain ⟨qb, qo⟩ := q
      cases c' with
      | ex c => exact hs.2.1
      | op e =>
        cases qb with
        | base b => exact hs.elim
        | loc j => obtain ⟨_, _, _, _, q, _⟩ := hs; exact q
  rw [h1, this]

end Am
