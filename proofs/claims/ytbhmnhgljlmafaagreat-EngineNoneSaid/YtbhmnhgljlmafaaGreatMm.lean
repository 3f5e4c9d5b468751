/- From a run of the abstract machine to a law's row: it returns true, and the arguments read as before. -/
import Derived.Test.YtbhmnhgljlmafaaGreatMl
import Derived.Test.YtbhmnhgljlmafaaGreatRows
import Derived.WalkKit
import Derived.ProofKit
import Derived.OpenShut
import Derived.Carry
set_option linter.all false

namespace Am
open Go Go.Proofs Go.RowKit Go.WideShapes Go.ChangeShapes Go.ChangeAt

/-- what was there stands as it stood; the streams are as they were -/
structure Stays (w w' : World) : Prop where
  os : w'.os = w.os
  output : w'.output = w.output
  size : w.heap.size ≤ w'.heap.size
  block : ∀ k, k < w.heap.size → w'.heap[k]? = w.heap[k]?

theorem Stays.frame {W w' : World} (h : Stays W w') (may : MemPlace → Prop) : W.keptBut w' may := by
  refine ⟨h.os, h.output, fun i hi => ?_⟩
  rw [h.block i hi]
  split <;> simp_all
theorem Stays.same {W w' : World} (h : Stays W w') {p : MemPlace} (hp : p.block < W.heap.size) : W.sameAt w' p := by
  cases p with
  | cell b o => exact World.cell?_of_block (w := W) (h.block b hp)
  | map b => exact h.block b hp

section
variable {H : Type} {enc : TypeId × Value → H} {P : Program}

theorem trodAll_stays (hl : laidOutB P = true) {W W' : World} {sp : Nat → Bool} : ∀ (ts : List TypeId) (vs : List Value) (ds : List (DataW H)) (ps : List MemPlace), (∀ t ∈ ts, P.readableRec t = true ∧ t < P.types.size) →
    DataW.TrodAll enc P W 0 (fun _ => true) true ts vs ds ps → (∀ p ∈ ps, W.sameAt W' p) → (∀ p ∈ ps, sp p.block = true) → DataW.TrodAll enc P W' 0 sp true ts vs ds ps
  | [], vs, ds, ps, _, h, _, _ => by
    obtain ⟨rfl, rfl, rfl⟩ := trodAll_nil h
    exact trodAll_mk0
  | t :: ts, vs, ds, ps, ht, h, hs, hp => by
    obtain ⟨v, vs', d, ds', p, q, rfl, rfl, rfl, h1, h2⟩ := trodAll_cons h
    exact trodAll_cons_mk (WideElems.Trod_stays hl (ht t (by simp)).1 (ht t (by simp)).2 h1 (fun x hx => hs x (by simp [hx])) (fun x hx => hp x (by simp [hx])))
      (trodAll_stays hl ts vs' ds' q (fun u hu => ht u (by simp [hu])) h2 (fun x hx => hs x (by simp [hx])) (fun x hx => hp x (by simp [hx])))

/-- a law's end: true; its arguments read as they read -/
theorem post_law {f : Func} {s : ChangeSpec} {fresh handsOn : Bool} {W W' : World} {args : Array Value} {ds gs : List (DataW H)} {before : List MemPlace} {tb : TypeId}
    (hl : laidOutB P = true) (hts : ∀ t ∈ f.params.toList, P.readableRec t = true ∧ t < P.types.size) (hrt : f.resultTypes = #[tb]) (htb : P.underlying tb = some .bool) (hvars : s.vars = [])
    (hres : (s.fn H (ds ++ gs)).results = [.lit (.bool true)]) (hargs : (s.fn H (ds ++ gs)).args = ds) (hvs : (s.fn H (ds ++ gs)).vars = [])
    (hW : DataW.Whole enc P f.params.toList s.vars false W args.toList ds gs before) (hb : Stays W W') :
    s.post enc P f false fresh handsOn false W args (.bool true) W' := by
  have hlt : ∀ p ∈ before, p.block < W.heap.size := fun p hp => hW.lt p hp
  have hW' := hW
  obtain ⟨pa, pv, hA, hV, rfl, hfz, hnd⟩ := hW'
  rw [hvars] at hV
  obtain ⟨rfl, rfl⟩ := trodVars_none hV
  simp only [List.append_nil] at hW hlt hfz hnd
  have hold : ∀ p ∈ pa, (fun b => decide (b < W.heap.size)) p.block = true := fun p hp => by simpa using hlt p hp
  have hA' : ∀ sp : Nat → Bool, (∀ p ∈ pa, sp p.block = true) → DataW.TrodAll enc P W' 0 sp true f.params.toList args.toList (s.fn H (ds ++ [])).args pa := fun sp hsp => by
    rw [hargs]
    exact trodAll_stays hl _ _ _ _ hts hA (fun p hp => hb.same (hlt p hp)) hsp
  have hV' : ∀ sp : Nat → Bool, DataW.TrodVars enc P W' sp s.vars (s.fn H (ds ++ [])).vars [] := fun sp => by rw [hvars, hvs]; rfl
  have hR : ∀ (b : Nat) (sp : Nat → Bool) (hd : Bool), DataW.TrodAll enc P W' b sp hd f.resultTypes.toList ((Value.bool true).resultList f.resultTypes.size) (s.fn H (ds ++ [])).results [] := fun b sp hd => by
    rw [hres, hrt]
    exact trodAll_mk1 (shut_bool htb true)
  refine ⟨ds, [], pa, [], pa, [], hW, hR _ _ _, hA' _ hold, hV' _, World.keptBut_mono (fun p hp => ⟨hp, ?_⟩) (hb.frame (· ∈ pa)), fun q => by simp at q⟩
  exact Or.inr (by simpa using hp)
end

/-- from the abstract machine: the call returns true, and all that there was stands -/
theorem law_calls {W0f : BaseF} {W : World} {f : FuncId} {xs : List AVal} {args : Array Value} {n : Nat} (hb : BRel W.heap.size W0f W) (ha : lrel W.heap.size (fun _ => none) xs args.toList)
    (hbody : ∃ fn c, Tryz.prog.funcs[f]? = some fn ∧ fn.body = some c) (h : ∃ H', acall Tz.F W0f Tz.prim2 n f xs ⟨0, .leaf⟩ = .ret (.bool true) H') :
    Calls Tryz.prog f args W fun e W' => e = .returned (.bool true) ∧ Stays W W' := by
  obtain ⟨H', h⟩ := h
  have hc := acall_ok Tz.fnsOK Tz.mixed (B := W.heap.size) (W0 := W) hb Tz.prim2OK n f xs ⟨0, .leaf⟩ (by rw [h]; simp) (fun _ => none) W args (WRel.start W) ha
  rw [h] at hc
  rcases hc with ⟨_, c2⟩ | ⟨v, H2, v', w', ι', e1, e2, e3, e4, e5⟩
  · refine c2.mono fun e w' ⟨ι', hl, hr, hv⟩ => ?_
    cases e with
    | returned v => exact ⟨by rw [show v = .bool true from hv], hr.io.1, hr.io.2, hr.size, hr.base⟩
    | _ => exact hv.elim
  · obtain ⟨fn, c, h1, h2⟩ := hbody
    by_cases hn : fn.name = "runtime.NumGoroutine"
    · exact absurd hn (by
        have hm : fn ∈ Tryz.prog.funcs.toList := List.mem_of_getElem? (i := f) (by simpa using h1)
        have := List.all_eq_true.1 Tz.names fn hm
        simpa using this)
    · have : (callFunc f args).run Tryz.prog W = .ok (.enter f args) W := by simp [callFunc, run_program, h1, hn, h2]
      rw [this] at e2
      simp at e2

/-! arguments -/
section
variable {P : Program} {W : World} {base : Nat}

/-- a value as the abstract machine sees an argument -/
def absV : Value → AVal
  | .bool b => .bool b
  | .int k n => .int k n
  | .float k b => .float k b
  | .string s => .str s.data.toList
  | .slice (some a) l c => .slice (some ⟨.base a.block, a.off⟩) l (.ex c)
  | _ => .slice none 0 (.ex 0)

theorem shape_lt {b : Nat} {x : TypeId × Nat} (h : W.shape? b = some x) : b < W.heap.size := by
  unfold World.shape? at h
  cases e : W.heap[b]? with
  | none => rw [e] at h; simp at h
  | some o => exact (Array.getElem?_eq_some_iff.1 e).1

theorem arg_int {u : TypeId} {k : IntKind} {v : Value} (hu : P.underlying u = some (.int k)) (h : Cell.okWide P W .any base u v) : ∃ n, v = .int k n := by
  simp only [Cell.okWide, hu] at h
  cases v <;> simp_all [Cell.ok]
theorem arg_float {u : TypeId} {k : FloatKind} {v : Value} (hu : P.underlying u = some (.float k)) (h : Cell.okWide P W .any base u v) : ∃ n, v = .float k n := by
  simp only [Cell.okWide, hu] at h
  cases v <;> simp_all [Cell.ok]
theorem arg_slice {u e : TypeId} {v : Value} (hu : P.underlying u = some (.slice e)) (h : Cell.okWide P W .any base u v) : vrel W.heap.size (fun _ => none) (absV v) v ∧ (absV v).scalar = true := by
  simp only [Cell.okWide, hu] at h
  cases v with
  | slice a l c =>
    cases a with
    | none =>
      cases l with
      | zero => cases c with
        | zero => exact ⟨⟨none, 0, 0, rfl, rfl, rfl, rfl, rfl, rfl⟩, rfl⟩
        | succ c => simp [Cell.ok, hu] at h
      | succ l => simp [Cell.ok, hu] at h
    | some a =>
      simp only [Cell.ok, hu] at h
      obtain ⟨h1, _, _, h2, row, cells, h3, _⟩ := h
      have hlt := shape_lt h3
      obtain ⟨b, o, sp⟩ := a
      simp only at h2 hlt
      subst h2
      exact ⟨⟨some ⟨b, o, none⟩, l, c, rfl, ⟨_, rfl, fun _ => ⟨hlt, rfl⟩⟩, rfl, rfl, h1⟩, rfl⟩
  | _ => simp [Cell.ok, hu] at h

theorem arg_cells {t : TypeId} {ts : List TypeId} {cs : Array Value} (hct : P.cellTypes P.depth t = some ts) (h : Row.okWide P W .any base t cs) (hl : cs.size = ts.length) {i : Nat} {v : Value} {u : TypeId}
    (hv : cs[i]? = some v) (hu : ts[i]? = some u) : Cell.okWide P W .any base u v := by
  obtain ⟨ts', h1, _, h3⟩ := h
  rw [hct] at h1
  simp at h1; subst h1
  obtain ⟨u', h4, h5⟩ := h3 i v hv
  have hi : i < ts.length := (List.getElem?_eq_some_iff.1 hu).1
  rw [Nat.mod_eq_of_lt hi, hu] at h4
  simp at h4; subst h4
  exact h5
end

end Am
