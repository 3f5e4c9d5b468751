/- 'EngineNone' answers true for every input, and its arguments read as before. No condition. -/
import Derived.Test.YtbhmnhgljlmafaaGreatNoneN
import Derived.Test.YtbhmnhgljlmafaaGreatMm
set_option linter.all false

namespace Go.Proofs.YtbhmnhgljlmafaaGreat
open Go Go.RowKit Go.WideShapes Go.ChangeShapes Go.ChangeAt Am

theorem engineNone_own : ownKnob Tryz.prog.godebug = none := by kernel_rfl
theorem engineNone_laidOut : laidOutB Tryz.prog = true := by kernel_rfl
theorem engineNone_types30 : Tryz.prog.cellTypes Tryz.prog.depth 30 = some [3, 2, 3, 3, 3, 3, 26, 26] := by kernel_rfl
theorem engineNone_types43 : Tryz.prog.cellTypes Tryz.prog.depth 43 = some [3, 2, 22] := by kernel_rfl
theorem engineNone_cells30 : Tryz.prog.cellsOf 30 = 8 := by kernel_rfl
theorem engineNone_cells43 : Tryz.prog.cellsOf 43 = 3 := by kernel_rfl

set_option maxRecDepth 100000 in
theorem engineNone_contract (H : Type) (enc : TypeId × Value → H) (W : World) (base : Nat) (args : Array Value) (ds gs : List (DataW H)) (before : List MemPlace)
    (hval : ∀ (j : Nat) t v, Tryz.f6.params[j]? = some t → args[j]? = some v → Value.okWide Tryz.prog W .any base t v)
    (hW : DataW.Whole enc Tryz.prog Tryz.f6.params.toList Rows.engineNoneSpec.vars false W args.toList ds gs before) :
    Calls Tryz.prog 6 args W fun e W' => ∃ v, e = .returned v ∧ Rows.engineNoneSpec.post enc Tryz.prog Tryz.f6 false true false false W args v W' := by
  have hW' := hW
  obtain ⟨p, q, hA0, hV, rfl, hfz, hnd⟩ := hW'
  have hA : DataW.TrodAll enc Tryz.prog W 0 (fun _ => true) true Tryz.f6.params.toList args.toList ds p := hA0
  rw [Tryz.params6] at hA hval
  obtain ⟨v0, vs0, d0, ds0, p0, q0, hargs, rfl, rfl, h0, r0⟩ := trodAll_cons hA
  obtain ⟨v1, vs1, d1, ds1, p1, q1, rfl, rfl, rfl, h1, r1⟩ := trodAll_cons r0
  obtain ⟨v2, vs2, d2, ds2, p2, q2, rfl, rfl, rfl, h2, r2⟩ := trodAll_cons r1
  obtain ⟨rfl, rfl, rfl⟩ := trodAll_nil r2
  obtain rfl : args = #[v0, v1, v2] := by cases args; simp_all
  obtain ⟨rfl, rfl⟩ := trodVars_none hV
  -- the first argument
  have k0 := hval 0 30 v0 rfl rfl
  simp only [Value.okWide, Tryz.underlying30] at k0
  obtain ⟨cs0, rfl, hs0, ho0⟩ := k0
  rw [engineNone_cells30] at hs0
  have c0 : ∀ (i : Nat) (v : Value) (u : TypeId), cs0[i]? = some v → [3, 2, 3, 3, 3, 3, 26, 26][i]? = some u → Cell.okWide Tryz.prog W .any base u v := fun i v u => arg_cells engineNone_types30 ho0 hs0
  obtain ⟨l0⟩ := cs0
  match l0, hs0, c0 with
  | [x0, x1, x2, x3, x4, x5, x6, x7], _, c0 =>
    obtain ⟨a, rfl⟩ := arg_int Tryz.underlying3 (c0 0 _ _ rfl rfl)
    obtain ⟨b, rfl⟩ := arg_int Tryz.underlying2 (c0 1 _ _ rfl rfl)
    obtain ⟨c, rfl⟩ := arg_int Tryz.underlying3 (c0 2 _ _ rfl rfl)
    obtain ⟨d, rfl⟩ := arg_int Tryz.underlying3 (c0 3 _ _ rfl rfl)
    obtain ⟨e, rfl⟩ := arg_int Tryz.underlying3 (c0 4 _ _ rfl rfl)
    obtain ⟨f, rfl⟩ := arg_int Tryz.underlying3 (c0 5 _ _ rfl rfl)
    obtain ⟨x, rfl⟩ := arg_float Tryz.underlying26 (c0 6 _ _ rfl rfl)
    obtain ⟨y, rfl⟩ := arg_float Tryz.underlying26 (c0 7 _ _ rfl rfl)
    -- the second
    have k1 := hval 1 43 v1 rfl rfl
    simp only [Value.okWide, Tryz.underlying43] at k1
    obtain ⟨cs1, rfl, hs1, ho1⟩ := k1
    rw [engineNone_cells43] at hs1
    have c1 : ∀ (i : Nat) (v : Value) (u : TypeId), cs1[i]? = some v → [3, 2, 22][i]? = some u → Cell.okWide Tryz.prog W .any base u v := fun i v u => arg_cells engineNone_types43 ho1 hs1
    obtain ⟨l1⟩ := cs1
    match l1, hs1, c1 with
    | [y0, y1, y2], _, c1 =>
      obtain ⟨k, rfl⟩ := arg_int Tryz.underlying3 (c1 0 _ _ rfl rfl)
      obtain ⟨l, rfl⟩ := arg_int Tryz.underlying2 (c1 1 _ _ rfl rfl)
      obtain ⟨hy, hys⟩ := arg_slice Tryz.underlying22 (c1 2 _ _ rfl rfl)
      -- the third
      obtain ⟨m, rfl⟩ := okWide_int Tryz.underlying3 (hval 2 3 v2 rfl rfl)
      refine (law_calls (W0f := fun _ => none) (n := 5) (fun _ _ h => by simp at h)
        (xs := [.agg [.int .i64 a, .int .i64 b, .int .i64 c, .int .i64 d, .int .i64 e, .int .i64 f, .float .f64 x, .float .f64 y], .agg [.int .i64 k, .int .i64 l, absV y2], .int .i64 m]) ?_
        ⟨Tryz.f6, _, Tryz.func6, rfl⟩ (engineNone_true 0 hys)).mono fun e W' ⟨he, hst⟩ => ⟨_, he, ?_⟩
      · refine lrel_cons.2 ⟨_, _, rfl, ⟨_, rfl, ?_⟩, lrel_cons.2 ⟨_, _, rfl, ⟨_, rfl, ?_⟩, lrel_cons.2 ⟨_, _, rfl, rfl, rfl⟩⟩⟩
        · exact ⟨_, _, rfl, rfl, _, _, rfl, rfl, _, _, rfl, rfl, _, _, rfl, rfl, _, _, rfl, rfl, _, _, rfl, rfl, _, _, rfl, rfl, _, _, rfl, rfl, rfl⟩
        · exact ⟨_, _, rfl, rfl, _, _, rfl, rfl, _, _, rfl, hy, rfl⟩
      · exact post_law (tb := 4) engineNone_laidOut (by rw [Tryz.params6]; intro t ht; simp at ht; rcases ht with rfl | rfl | rfl <;> exact ⟨by kernel_rfl, by decide +kernel⟩) rfl Tryz.underlying4 rfl rfl rfl rfl hW hst

set_option maxRecDepth 100000 in
theorem engineNone_lifted (os : Os) (started : os.Started) (H : Type) (enc : TypeId × Value → H) :
    ReturnsInHanded {} Tryz.checked os 6 .any (Rows.engineNoneSpec.pre6 enc Tryz.prog Tryz.f6 Rows.engineNoneRow.domain false) (Rows.engineNoneSpec.post enc Tryz.prog Tryz.f6 false true false false) := by
  refine returnsInHanded_of_change (C := Tryz.checked) engineNone_own started (by kernel_rfl) Tryz.func6
    (ChangeSpec.witness6 (enc := enc) (C := Tryz.checked) false ⟨#[], #[.agg #[.int .i64 0, .int .i64 0, .int .i64 0, .int .i64 0, .int .i64 0, .int .i64 0, .float .f64 0, .float .f64 0], .agg #[.int .i64 0, .int .i64 0, .slice none 0 0], .int .i64 0], []⟩ 8 (by kernel_rfl) (by kernel_rfl) (by kernel_rfl) (by kernel_rfl)) ?_
  intro W base args ds gs before hval hW _ _
  exact engineNone_contract H enc W base args ds gs before hval hW

end Go.Proofs.YtbhmnhgljlmafaaGreat
