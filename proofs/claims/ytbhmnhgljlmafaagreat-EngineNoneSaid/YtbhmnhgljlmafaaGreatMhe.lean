/- The abstract machine: the room on a disk: what a call comes to. -/
import Derived.Test.YtbhmnhgljlmafaaGreatMhd
set_option linter.all false

namespace Am
open Go Go.Proofs

variable {B : Nat} {ι : Iota} {W0 w : World} {H : AHeap}

theorem iMax_eq (x : Int) : pRoom.iMax x = max 0 x := by
  cases x with
  | ofNat n => exact (Int.max_eq_right (Int.natCast_nonneg n)).symm
  | negSucc n => simp only [pRoom.iMax]; omega

theorem pRoom_ok {args : List AVal} (h : pRoom args H ≠ .stuck) : CallOK Tryz.prog B W0 374 args H (pRoom args H) := by
  unfold pRoom at h ⊢
  split at h
  case h_2 => exact absurd rfl h
  rename_i p
  split at h
  case h_2 => exact absurd rfl h
  rename_i j hj
  split at h
  case h_2 => exact absurd rfl h
  rename_i most i r2 r3
  split at h
  case h_2 => exact absurd rfl h
  rename_i es hg
  cases hc : (es.all isStrKey && iEq (w64 most) most) with
  | false => rw [hc] at h; exact absurd rfl h
  | true =>
    cases hs : roomSum H es with
    | none => rw [hc, hs] at h; exact absurd rfl h
    | some s =>
      simp only [hj, r2, r3, hg, hc, hs, cond_true]
      simp only [Bool.and_eq_true, List.all_eq_true, iEq_iff, beq_iff_eq] at hc
      intro ι w args' hw ha
      obtain ⟨v0, rfl, hv0⟩ := lrel_one ha
      obtain ⟨z, rfl, hz⟩ := vrel_ptr hv0
      obtain ⟨pb, po⟩ := p
      simp only at hj
      subst hj
      obtain ⟨L, eL, rfl⟩ := hz
      obtain ⟨v2, c2, e2⟩ := read1_ok hw noBase (x := ⟨.loc j, po + 2⟩) (y := ⟨L.blk, L.sh + po + 2, none⟩) ⟨L, eL, by simp [Nat.add_assoc]⟩ r2
      obtain ⟨v3, c3, e3⟩ := read1_ok hw noBase (x := ⟨.loc j, po + 3⟩) (y := ⟨L.blk, L.sh + po + 3, none⟩) ⟨L, eL, by simp [Nat.add_assoc]⟩ r3
      simp only [vrel] at e2
      subst e2
      obtain ⟨M, eM, rfl⟩ := e3
      obtain ⟨ents, clock, es', h1, h2, h3, h4, h5⟩ := map_obj2 hw eM hg
      have hs' : ∀ e ∈ es', isStrKey e = true := fun e he => hc.1 e (h2.mem_iff.1 he)
      have hkeys := erel_keys h3 hs'
      have hnod : (es'.map strKey).Nodup := ((h2.map strKey).nodup_iff).2 (keys_nodup h4 hc.1)
      obtain ⟨q1, q2⟩ := roomSum_ok hw h3 ((roomSum_perm h2).trans hs)
      refine .inl ⟨enters_of Tryz.func374 (by kernel_rfl) rfl _ w, ?_⟩
      refine (Tryz.room L.blk (L.sh + po) M.blk ents clock most w c2 c3 hc.2 h1 ⟨fun x hx => h5.1 _ (List.mem_map_of_mem hx), h5.2, ?_⟩ q1).mono fun e w' he => ?_
      · rw [hkeys, List.Nodup, List.pairwise_map]
        exact hnod.imp fun hne e => hne (encStr_inj e)
      · obtain ⟨rfl, w1, seen, hal, rfl⟩ := he
        refine ⟨ι, Later.refl H ι, hw.ext (by simp [hal.1]) (fun b hb => ?_) ⟨hal.2.1, hal.2.2⟩, ?_⟩
        · exact (heap_alloc_old w1 _ _ (show b < w1.heap.size by rw [hal.1]; exact hb)).trans (by rw [hal.1])
        · rw [q2, iMax_eq]; rfl

end Am
