/- The abstract machine: the room on a disk: sums. -/
import Derived.Test.YtbhmnhgljlmafaaGreatMhc
set_option linter.all false

namespace Am
open Go Go.Proofs

variable {B : Nat} {ι : Iota} {W0 w : World} {H : AHeap}

theorem roomSum_perm {es es' : List (AVal × AVal)} (hp : es'.Perm es) : roomSum H es' = roomSum H es := by
  induction hp with
  | nil => rfl
  | cons x _ ih => simp only [roomSum, ih]
  | swap x y l =>
    simp only [roomSum]
    cases roomLen H x <;> cases roomLen H y <;> cases roomSum H l <;> simp
    omega
  | trans _ _ h1 h2 => exact h1.trans h2

theorem roomSum_ok (hw : WRel B W0 H ι w) : ∀ {es : List (AVal × AVal)} {l : List MapEntry} {s : Nat}, erel B ι es l → roomSum H es = some s →
    (∀ x ∈ l, ∃ g p s n c, x.val = .pointer (some ⟨g, p, none⟩) ∧ w.cell? ⟨g, p, none⟩ = some (.slice s n c)) ∧ (l.map (roomVal w)).sum = (s : Int)
  | [], l, s, h, hs => by
    have h : _ = _ := h
    subst h
    simp [roomSum] at hs; subst hs
    exact ⟨by simp, rfl⟩
  | (k, v) :: es, l, s, h, hs => by
    obtain ⟨e, r, rfl, h1, h2, h3⟩ := h
    simp only [roomSum] at hs
    cases hn : roomLen H (k, v) with
    | none => rw [hn] at hs; simp at hs
    | some n =>
      cases hm : roomSum H es with
      | none => rw [hn, hm] at hs; simp at hs
      | some m =>
        rw [hn, hm] at hs
        simp at hs; subst hs
        obtain ⟨q1, q2⟩ := roomSum_ok hw h3 hm
        obtain ⟨g, p, s', c, e1, e2⟩ := roomLen_ok hw hn h2
        refine ⟨fun x hx => ?_, ?_⟩
        · rcases List.mem_cons.1 hx with rfl | hx
          · exact ⟨g, p, s', n, c, e1, e2⟩
          · exact q1 x hx
        · have : roomVal w e = n := by simp [roomVal, e1, e2]
          simp [this, q2]

end Am
