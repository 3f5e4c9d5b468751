/- The abstract machine: lengths of maps, bytes as a string; what makes an object. -/
import Derived.Test.YtbhmnhgljlmafaaGreatMc
import Derived.Laws.BytesString
import Derived.Laws.BytesArg
set_option linter.all false

namespace Am
open Go

variable {P : Program} {B nt : Nat} {ι ι' : Iota} {T : Tmps} {a : Act} {W0 w w' : World} {W0f : BaseF} {H H' : AHeap}

theorem erel_length : ∀ {es : List (AVal × AVal)} {l : List MapEntry}, erel B ι es l → l.length = es.length
  | [], _, h => by have h : _ = _ := h; subst h; rfl
  | (_, _) :: es, _, h => by obtain ⟨e, r, rfl, _, _, h⟩ := h; simp [erel_length h]

theorem lenM_ok {o : Oper} {t k e : TypeId} {x : Operand} {y : Opd} (ho : o.op = .call { callee := .builtin .len, args := #[x], argTypes := #[t] }) (ht : P.underlying t = some (.map k e))
    (hy : cOpd nt x = some y) : ReadOK P nt o fun _ T H => xLenM (ev T y) H := by
  intro B W0 W0f H ι T a v w hf hw hb hv
  have hx := cOpd_ok hf hy
  simp only [xLenM] at hv
  split at hv
  case h_2 => exact absurd hv (by simp)
  rename_i r er
  rw [er] at hx
  cases r with
  | none =>
    simp only [vrel] at hx
    simp [mapOf] at hv; subst hv
    refine ⟨.int .i64 0, call_builtin ho ?_, by simp [vrel]⟩
    simp only [builtin, Builtin.len_, List.getElem?_toArray, List.getElem?_cons_zero, List.map_toArray, List.map_cons, List.map_nil, Sem.run_bind, run_und ht, Result.andThen_ok, hx]
    simp [goInt]
  | some r =>
    obtain ⟨L, eL, ex⟩ := hx
    simp only [mapOf] at hv
    split at hv
    case h_2 => exact absurd hv (by simp)
    rename_i es hg
    simp at hv; subst hv
    split at hg
    case h_2 => exact absurd hg (by simp)
    rename_i es0 hg0
    simp at hg; subst hg
    obtain ⟨ents, clock, es', h1, h2, h3, h4⟩ := map_obj hw eL hg0
    have hsz : ents.size = es0.length := by
      have := erel_length h3
      rw [h2.length_eq] at this
      simpa using this
    refine ⟨.int .i64 es0.length, call_builtin ho ?_, by simp [vrel]⟩
    simp only [builtin, Builtin.len_, List.getElem?_toArray, List.getElem?_cons_zero, List.map_toArray, List.map_cons, List.map_nil, Sem.run_bind, run_und ht, Result.andThen_ok, ex, run_getObj h1 (by simp)]
    simp [goInt, hsz]

/-- the cells of a slice, loaded -/
theorem sl_load (hw : WRel B W0 H ι w) (hb : BRel B W0f W0) {s : AAddr} {len : Nat} {cap : ACap} {s' : Option Addr} {l' c' : Nat} (hs : srel B ι (some s) len cap s' l' c') {n : Nat} {l : List AVal}
    (hr : readN W0f H s n = some l) (hn : n = 0 ∨ len ≠ 0) : ∃ z vs, s' = some z ∧ lrel B ι l vs ∧ ∀ w' : World, w'.heap = w.heap → (loadCells z n).run P w' = .ok vs.toArray w' := by
  rcases Nat.eq_zero_or_pos n with rfl | hn0
  · simp [readN] at hr; subst hr
    have : ∃ z, s' = some z := by
      cases cap with
      | ex c => obtain ⟨⟨z, e, _⟩, _⟩ := hs; exact ⟨z, e⟩
      | op e =>
        obtain ⟨b, o⟩ := s
        cases b with
        | base _ => exact hs.elim
        | loc i => obtain ⟨L, o', _, e, _⟩ := hs; exact ⟨_, e⟩
    obtain ⟨z, e⟩ := this
    exact ⟨z, [], e, lrel_nil.2 rfl, fun w' _ => by simp [loadCells, loadCellsFrom]⟩
  · have hl : len ≠ 0 := hn.resolve_left (by omega)
    have : ∃ z, s' = some z ∧ arel B ι s z := by
      cases cap with
      | ex c => obtain ⟨⟨z, e, h⟩, _, _, h4⟩ := hs; exact ⟨z, e, h (by omega)⟩
      | op e =>
        obtain ⟨b, o⟩ := s
        cases b with
        | base _ => exact hs.elim
        | loc i =>
          obtain ⟨L, o', e1, e2, _, _, e5, _⟩ := hs
          have := e5 hl; subst this
          exact ⟨_, e2, L, e1, rfl⟩
    obtain ⟨z, e, hz⟩ := this
    obtain ⟨vs, h1, h2⟩ := loadCells_ok (P := P) hw hb hz hr
    exact ⟨z, vs, e, h1, h2⟩

theorem toBytes_ok : ∀ {l : List AVal} {vs : List Value} {bs : List UInt8}, toBytes l = some bs → lrel B ι l vs → ∃ ns : List Int, vs = ns.map (Value.int .u8) ∧ bs = ns.map fun n => UInt8.ofNat n.toNat
  | [], vs, bs, h, hr => by rw [lrel_nil] at hr; subst hr; simp [toBytes] at h; subst h; exact ⟨[], rfl, rfl⟩
  | x :: l, vs, bs, h, hr => by
    obtain ⟨v, us, rfl, h1, h2⟩ := lrel_cons.1 hr
    cases x
    all_goals try (simp [toBytes] at h; done)
    rename_i k n
    cases k
    all_goals try (simp [toBytes] at h; done)
    simp only [toBytes] at h
    cases hb : toBytes l with
    | none => simp [hb] at h
    | some bs' =>
      simp [hb] at h; subst h
      obtain ⟨ns, e1, e2⟩ := toBytes_ok hb h2
      have := vrel_int h1
      exact ⟨n :: ns, by simp [e1, this], by simp [e2]⟩

theorem readN_len {W0f : BaseF} {s : AAddr} {n : Nat} {l : List AVal} (h : readN W0f H s n = some l) : l.length = n := by
  unfold readN at h
  split at h
  · simp at h; subst h; rfl
  · split at h
    case h_2 => exact absurd h (by simp)
    obtain ⟨h1, rfl⟩ := takeN_eq _ _ _ h
    simp; omega

theorem bytesStr_ok {o : Oper} {s d e : TypeId} {x : Operand} {y : Opd} (ho : o.op = .convert s d x) (hs : P.underlying s = some (.slice e)) (he : P.underlying e = some (.int .u8)) (hd : P.underlying d = some .string)
    (hy : cOpd nt x = some y) : ReadOK P nt o fun W0 T H => xBytesStr W0 (ev T y) H := by
  intro B W0 W0f H ι T a v w hf hw hb hv
  have hx := cOpd_ok hf hy
  simp only [xBytesStr] at hv
  split at hv
  · rename_i len cap er
    rw [er] at hx
    obtain ⟨s', l', c', ez, rz⟩ := hx
    simp at hv; subst hv
    obtain ⟨rfl, _⟩ := rz
    refine ⟨.string .empty, ?_, rfl⟩
    simp [execOp, ho, ez, run_convert_bytes_nil w s e hs he l' c' d hd]
  · rename_i p n cap er
    rw [er] at hx
    obtain ⟨s', l', c', ez, rz⟩ := hx
    have hl := (srel_len rz).1
    split at hv
    case h_2 => exact absurd hv (by simp)
    rename_i l hr
    split at hv
    case h_2 => exact absurd hv (by simp)
    rename_i bs hbs
    simp at hv; subst hv
    obtain ⟨z, vs, e1, h1, h2⟩ := sl_load (P := P) hw hb rz hr (by omega)
    subst e1
    obtain ⟨ns, rfl, rfl⟩ := toBytes_ok hbs h1
    subst hl
    refine ⟨.string ⟨(ns.map fun n : Int => UInt8.ofNat n.toNat).toArray⟩, ?_, rfl⟩
    have := run_bytesToString (P := P) w z l' c' ns (h2 w rfl)
    rw [foldl_push_bytes] at this
    have h3 := run_convert_bytes_string (P := P) w s d e (some z) l' c' hs he hd
    rw [this] at h3
    simp [execOp, ho, ez, h3]
  · exact absurd hv (by simp)

/-! ## what makes an object -/
theorem cells_orel {L : Loc} {ty ty' : TypeId} {cs : List AVal} {c : Array Value} {st : Bool} {fr : Nat × Nat} (h0 : L.sh = 0) (h1 : c.size = L.tot) (h2 : lrel B ι cs (c.toList.take cs.length)) (h3 : fr = (0, 0) ∨ (st = true ∧ fr = (c.size, c.size + 1))) : orel B ι L (.cells ty cs st) (some (.cells c ty' fr)) := by
  have hl := lrel_length h2
  simp at hl
  refine ⟨c, ty', fr, rfl, h1, by omega, fun j v hv => ?_, h3⟩
  rw [nthN_eq] at hv
  have hj : j < cs.length := (List.getElem?_eq_some_iff.1 hv).1
  obtain ⟨v', e, r⟩ := lrel_getD h2 hv
  rw [List.getElem?_take, if_pos hj] at e
  exact ⟨v', by rw [h0, Nat.zero_add]; simpa using e, r⟩

theorem new_ok {cs : List AVal} {vs : Array Value} (ty : TypeId) (hr : lrel B ι cs vs.toList) (id : Nat) (hid : ι id = none) : orel B (ι.put id ⟨w.heap.size, 0, vs.size⟩) ⟨w.heap.size, 0, vs.size⟩ (.cells ty cs false) (some (.cells vs ty (0, 0))) := by
  have hl := lrel_length hr
  refine cells_orel rfl rfl ?_ (.inl rfl)
  rw [List.take_of_length_le (by omega)]
  exact lrel_mono (Iota.put_le hid) _ _ hr

theorem put_self (ι : Iota) (id : Nat) (L : Loc) : (ι.put id L) id = some L := by simp [Iota.put]

theorem ptr_new (id : Nat) (L : Loc) (h : L.sh = 0) : vrel B (ι.put id L) (.ptr (some ⟨.loc id, 0⟩)) (.pointer (some ⟨L.blk, 0, none⟩)) :=
  ⟨_, rfl, L, put_self ι id L, by simp [h]⟩

theorem alloc_ok {o : Oper} {t : TypeId} {z : AVal} (ho : o.op = .alloc t) (hz : zeroA P t = some z) : AllocOK P nt o fun _ => xNew t z.cells := by
  intro B ι T a x mk w hf hv
  obtain ⟨zv, z1, z2, z3⟩ := run_zero (w := w) (B := B) (ι := ι) hz
  simp only [xNew] at hv
  cases hs : allScalar z.cells with
  | false => simp [hs] at hv
  | true =>
    simp [hs] at hv
    obtain ⟨rfl, rfl⟩ := hv
    have hr := vrel_cells hs z2
    refine ⟨.pointer (some ⟨w.heap.size, 0, none⟩), { w with heap := w.heap.push (.cells zv.cells t) }, .cells zv.cells t, ⟨w.heap.size, 0, zv.cells.size⟩, ?_, ⟨rfl, rfl, rfl⟩, rfl, fun id hid => ⟨new_ok t hr id hid, ptr_new id _ rfl⟩⟩
    simp [execOp, ho, Instr.alloc, z1, newVar, newRow]

theorem box_ok {o : Oper} {t : TypeId} {x : Operand} {y : Opd} (ho : o.op = .box t x) (hy : cOpd nt x = some y) : AllocOK P nt o fun T => xNew t (ev T y).cells := by
  intro B ι T a ob mk w hf hv
  have hx := cOpd_ok hf hy
  simp only [xNew] at hv
  cases hs : allScalar (ev T y).cells with
  | false => simp [hs] at hv
  | true =>
    simp [hs] at hv
    obtain ⟨rfl, rfl⟩ := hv
    have hr := vrel_cells hs hx
    refine ⟨.pointer (some ⟨w.heap.size, 0, none⟩), { w with heap := w.heap.push (.cells (a.eval x).cells t) }, .cells (a.eval x).cells t, ⟨w.heap.size, 0, (a.eval x).cells.size⟩, ?_, ⟨rfl, rfl, rfl⟩, rfl, fun id hid => ⟨new_ok t hr id hid, ptr_new id _ rfl⟩⟩
    simp [execOp, ho, Instr.box, newVar, newRow]

theorem mkMap_ok {o : Oper} {t : TypeId} (ho : o.op = .makeMap t none) : AllocOK P nt o fun _ => xMkMap := by
  intro B ι T a ob mk w hf hv
  simp [xMkMap] at hv
  obtain ⟨rfl, rfl⟩ := hv
  refine ⟨.map (some w.heap.size), { w with heap := w.heap.push (.map #[] 0) }, .map #[] 0, ⟨w.heap.size, 0, 0⟩, by simp [execOp, ho, Instr.makeMap], ⟨rfl, rfl, rfl⟩, rfl, fun id hid => ⟨?_, ⟨_, put_self ι id _, rfl⟩⟩⟩
  exact ⟨#[], 0, [], rfl, List.Perm.refl _, rfl, ⟨by simp, List.Pairwise.nil⟩, by simp [bornOK]⟩

theorem repl_len (z : List AVal) : ∀ n, (repl z n).length = n * z.length
  | 0 => by simp [repl]
  | n + 1 => by simp [repl, repl_len z n, Nat.succ_mul, Nat.add_comm]

theorem repl_get (z : List AVal) : ∀ (n j : Nat), j < n * z.length → (repl z n)[j]? = z[j % z.length]?
  | 0, j, h => by simp at h
  | n + 1, j, h => by
    simp only [repl]
    by_cases hj : j < z.length
    · rw [List.getElem?_append_left hj, Nat.mod_eq_of_lt hj]
    · have hm := Nat.add_mul n 1 z.length
      rw [List.getElem?_append_right (by omega), repl_get z n _ (by omega), Nat.mod_eq_sub_mod (show j ≥ z.length by omega)]

theorem repl_rel {z : List AVal} {zv : Array Value} (hr : lrel B ι z zv.toList) (h0 : zv.size ≠ 0) (n : Nat) : lrel B ι (repl z n) ((Array.range (n * zv.size)).map (zv[· % zv.size]!)).toList := by
  have hl := lrel_length hr
  simp at hl
  refine lrel_of_get (by simp [repl_len, hl]) fun j v hv => ?_
  have hj : j < n * zv.size := by
    have := (List.getElem?_eq_some_iff.1 hv).1
    rw [repl_len] at this; rw [hl]; exact this
  rw [repl_get z n j (by rw [← hl]; exact hj)] at hv
  obtain ⟨v', e, r⟩ := lrel_getD hr hv
  refine ⟨v', ?_, r⟩
  rw [← hl] at e
  have hm : j % zv.size < zv.size := Nat.mod_lt _ (by omega)
  simp at e
  have e2 := (Array.getElem?_eq_some_iff.1 e).2
  simp [hj, e2, getElem!_pos, hm]

theorem buildSl_ok {o : Oper} {t e : TypeId} {len size : Nat} {ps : Array (Nat × Operand)} {z : AVal} {qs : List (Nat × Nat × Opd)} (ho : o.op = .buildSlice t len ps) (ht : P.underlying t = some (.slice e)) (hz : zeroA P e = some z)
    (hs : sizeOf? P e = some size) (hzl : z.cells.length = size) (hs0 : size ≠ 0) (hle : len * size ≤ 65536) (hq : cParts nt ps.toList (fun i => some (i * size, size)) = some qs) :
    AllocOK P nt o fun T => xBuildSl e len (fillA T (repl z.cells len) qs) := by
  intro B ι T a ob mk w hf hv
  obtain ⟨zv, z1, z2, z3⟩ := run_zero (w := w) (B := B) (ι := ι) hz
  have hzr := (liftC_cells (B := B) (ι := ι) z3).1
  have hzs : zv.cells.size = size := by have := lrel_length hzr; simp at this; omega
  simp only [xBuildSl] at hv
  split at hv
  case h_2 => exact absurd hv (by simp)
  rename_i cs hfl
  cases hsc : allScalar cs with
  | false => simp [hsc] at hv
  | true =>
    simp [hsc] at hv
    obtain ⟨rfl, rfl⟩ := hv
    have hrow := repl_rel hzr (by omega) len
    obtain ⟨cs', h3, h4⟩ := fill_ok (place' := fun i => some (i * size, size)) (fun i q hi => hi) hf ps.toList qs _ cs _ hq hfl hrow
    have hcl := lrel_length h4
    simp at hcl
    refine ⟨.slice (some ⟨w.heap.size, 0, none⟩) len len, { w with heap := w.heap.push (.cells cs' e) }, .cells cs' e, ⟨w.heap.size, 0, cs'.size⟩, ?_, ⟨rfl, rfl, rfl⟩, rfl, fun id hid => ⟨new_ok e h4 id hid, ?_⟩⟩
    · have hzero : (if len * size = 0 then (pure #[] : Sem (Array Value)) else do pure (← zeroValue e).cells).run P w = .ok (if len * size = 0 then #[] else zv.cells) w := by
        by_cases h0 : len * size = 0
        · simp [h0]
        · simp [h0, z1]
      have hrange : (Array.range (len * size)).map ((if len * size = 0 then #[] else zv.cells)[· % (if len * size = 0 then (#[] : Array Value) else zv.cells).size]!) = (Array.range (len * zv.cells.size)).map (zv.cells[· % zv.cells.size]!) := by
        rw [hzs]
        by_cases h0 : len * size = 0
        · rw [h0]; simp
        · rw [if_neg h0, hzs]
      have : (Instr.buildSlice t len (ps.map fun p => (p.1, a.eval p.2))).run P w = .ok (.slice (some ⟨w.heap.size, 0, none⟩) len len) { w with heap := w.heap.push (.cells cs' e) } := by
        unfold Instr.buildSlice
        simp only [Sem.run_bind, run_und ht, Result.andThen_ok, run_size hs]
        rw [if_neg (by omega)]
        have hp : (ps.map fun p => (p.1, a.eval p.2)).toList = ps.toList.map fun p => (p.1, a.eval p.2) := by simp
        by_cases h0 : len * size = 0
        · rw [if_pos h0] at hrange
          simp only [if_pos h0, Sem.run_bind, Sem.run_pure, Result.andThen_ok, hp, hrange, h3]
          simp [newRow]
        · rw [if_neg h0] at hrange
          simp only [if_neg h0, Sem.run_bind, Sem.run_pure, Result.andThen_ok, z1, hp, hrange, h3]
          simp [newRow]
      simp [execOp, ho, this]
    · exact ⟨_, _, _, rfl, ⟨⟨_, rfl, fun _ => ⟨_, put_self ι id _, by simp⟩⟩, rfl, rfl, Nat.le_refl _⟩⟩

theorem wrap_small {n : Nat} (h : n ≤ bound46) : IntKind.i64.wrap (Int.ofNat n) = Int.ofNat n := by
  apply wrap_id <;> simp [IntKind.min, IntKind.max, IntKind.signed, IntKind.bits, bound46] at * <;> omega

theorem mkSlice_ok {o : Oper} {t e : TypeId} {i : TypeInfo} {l c : Operand} {l' c' : Opd} {z : AVal} (ho : o.op = .makeSlice t l c) (ht : P.underlying t = some (.slice e)) (hz : zeroA P e = some z)
    (hi : P.info? e = some i) (hzl : z.cells.length = i.size) (hs0 : i.size ≠ 0) (hl : cOpd nt l = some l') (hc : cOpd nt c = some c') :
    AllocOK P nt o fun T => xMkSlice e i.bytes z.cells (ev T l') (ev T c') := by
  intro B ι T a ob mk w hf hv
  have hll := cOpd_ok hf hl
  have hcc := cOpd_ok hf hc
  obtain ⟨zv, z1, z2, z3⟩ := run_zero (w := w) (B := B) (ι := ι) hz
  have hzr := (liftC_cells (B := B) (ι := ι) z3).1
  have hzs : zv.cells.size = i.size := by have := lrel_length hzr; simp at this; omega
  simp only [xMkSlice] at hv
  split at hv
  case h_2 => exact absurd hv (by simp)
  rename_i k1 ln k2 cn e1 e2
  rw [e1] at hll; rw [e2] at hcc
  have el := vrel_int hll
  have ec := vrel_int hcc
  cases hb : (Nat.ble ln cn && Nat.ble (cn * i.bytes) bound46 && Nat.ble cn bound46 && allScalar z.cells) with
  | false => simp [hb] at hv
  | true =>
    simp [hb] at hv
    obtain ⟨rfl, rfl⟩ := hv
    simp only [Bool.and_eq_true] at hb
    obtain ⟨⟨⟨b1, b2⟩, b3⟩, b4⟩ := hb
    have b1 := Nat.le_of_ble_eq_true b1
    have b2 := Nat.le_of_ble_eq_true b2
    have b3 := Nat.le_of_ble_eq_true b3
    have hrow := repl_rel hzr (by omega) cn
    have wl := wrap_small (show ln ≤ bound46 by omega)
    have wc := wrap_small b3
    refine ⟨.slice (some ⟨w.heap.size, 0, none⟩) ln cn, { w with heap := w.heap.push (.cells ((Array.range (cn * zv.cells.size)).map (zv.cells[· % zv.cells.size]!)) e) }, _, ⟨w.heap.size, 0, ((Array.range (cn * zv.cells.size)).map (zv.cells[· % zv.cells.size]!)).size⟩, ?_, ⟨rfl, rfl, rfl⟩, rfl, fun id hid => ⟨new_ok e hrow id hid, ?_⟩⟩
    · have hsz : (Go.sizeOf e).run P w = .ok i.size w := run_size (by simp [sizeOf?, hi])
      have hnb : ¬ (i.bytes : Int) * Int.ofNat cn > 2 ^ 48 := by
        have : (i.bytes : Int) * Int.ofNat cn = ((cn * i.bytes : Nat) : Int) := by simp [Int.mul_comm]
        rw [this]; unfold bound46 at b2; omega
      have hnbl : ¬ (i.bytes : Int) * Int.ofNat ln > 2 ^ 48 := by
        have h1 : (i.bytes : Int) * Int.ofNat ln = ((ln * i.bytes : Nat) : Int) := by simp [Int.mul_comm]
        have h2 : ln * i.bytes ≤ cn * i.bytes := Nat.mul_le_mul_right _ b1
        rw [h1]; unfold bound46 at b2; omega
      have : (Instr.makeSlice t (.int k1 (Int.ofNat ln)) (.int k2 (Int.ofNat cn))).run P w = .ok (.slice (some ⟨w.heap.size, 0, none⟩) ln cn) { w with heap := w.heap.push (.cells ((Array.range (cn * zv.cells.size)).map (zv.cells[· % zv.cells.size]!)) e) } := by
        unfold Instr.makeSlice
        simp only [Sem.run_bind, run_und ht, Result.andThen_ok, asInt, asIntOf, Sem.run_pure, run_info hi, wl, wc]
        have hcond : (decide (Int.ofNat cn < 0) || decide ((i.bytes : Int) * Int.ofNat cn > 2 ^ 48) || decide (Int.ofNat ln < 0) || decide (Int.ofNat ln > Int.ofNat cn)) = false := by
          simp only [Bool.or_eq_false_iff, decide_eq_false_iff_not]
          refine ⟨⟨⟨by simp, hnb⟩, by simp⟩, by simp; omega⟩
        rw [if_neg (by rw [hcond]; simp)]
        have hct : (Int.ofNat cn).toNat = cn := rfl
        have hlt : (Int.ofNat ln).toNat = ln := rfl
        simp only [Result.andThen_ok, Sem.run_bind, run_askRoom, hsz, hct, hlt]
        rw [← hzs]
        by_cases h0 : cn * zv.cells.size = 0
        · have hr0 : Array.range 0 = #[] := rfl
          simp [h0, newRow, hr0]
        · simp only [if_neg h0, Sem.run_bind, z1, Result.andThen_ok, Sem.run_pure]
          simp [newRow]
      simp only [execOp, ho, el, ec, Sem.run_bind, this, Result.andThen_ok, Sem.run_pure]
    · exact ⟨_, _, _, rfl, ⟨⟨_, rfl, fun _ => ⟨_, put_self ι id _, by simp⟩⟩, rfl, rfl, b1⟩⟩

theorem byteVals_rel : ∀ (s : List UInt8), lrel B ι (byteVals s) (s.map fun b => Value.int .u8 b.toNat)
  | [] => lrel_nil.2 rfl
  | b :: s => lrel_cons.2 ⟨_, _, rfl, by simp [vrel], byteVals_rel s⟩

theorem byteVals_len (s : List UInt8) : (byteVals s).length = s.length := by
  induction s with
  | nil => rfl
  | cons b s ih => simp [byteVals, ih]

theorem strBytes_ok {o : Oper} {s d e : TypeId} {x : Operand} {y : Opd} (ho : o.op = .convert s d x) (hs : P.underlying s = some .string) (hd : P.underlying d = some (.slice e)) (he : P.underlying e = some (.int .u8))
    (hy : cOpd nt x = some y) : AllocOK P nt o fun T => xStrBytes e (ev T y) := by
  intro B ι T a ob mk w hf hv
  have hx := cOpd_ok hf hy
  simp only [xStrBytes] at hv
  split at hv
  case h_2 => exact absurd hv (by simp)
  rename_i l er
  rw [er] at hx
  simp only [vrel] at hx
  simp at hv
  obtain ⟨rfl, rfl⟩ := hv
  let q : Question := .appendCap l.length 0 e
  let cap := q.cut (w.tape w.drawn q)
  have hcap : l.length ≤ cap := by show l.length ≤ l.length + _; omega
  let row : Array Value := (l.toArray.map fun b => Value.int .u8 b.toNat) ++ Array.replicate (cap - l.length) (.int .u8 0)
  have hrs : row.size = cap := by simp [row]; omega
  refine ⟨.slice (some ⟨w.heap.size, 0, none⟩) l.length cap, { w with drawn := w.drawn + 1, heap := w.heap.push (.cells row e (cap, cap + 1)) }, .cells row e (cap, cap + 1), ⟨w.heap.size, 0, cap⟩, ?_, ⟨rfl, rfl, rfl⟩, rfl, fun id hid => ⟨?_, ?_⟩⟩
  · have hcv : (convert s d (.string ⟨l.toArray⟩)).run P w = (Conv.stringToBytes e ⟨l.toArray⟩).run P w := by
      unfold convert
      rw [Sem.run_bind, run_und hs]
      simp only [Result.andThen_ok, Sem.run_bind, run_und hd, run_und he]
    have hsb : (Conv.stringToBytes e ⟨l.toArray⟩).run P w = .ok (.slice (some ⟨w.heap.size, 0, none⟩) l.length cap) { w with drawn := w.drawn + 1, heap := w.heap.push (.cells row e (cap, cap + 1)) } := by
      unfold Conv.stringToBytes
      have hsz : (⟨l.toArray⟩ : ByteArray).size = l.length := by simp [ByteArray.size]
      simp only [Sem.run_bind, run_choose, hsz, Question.forced, Bool.false_eq_true, if_false, Result.andThen_ok, newRow, run_newObj, Sem.run_pure, markStringish, run_shape, World.shape?]
      have h1 : (w.heap.push (Obj.cells row e))[w.heap.size]? = some (.cells row e (0, 0)) := by simp
      have hrow : (Array.map (fun b => Value.int IntKind.u8 ↑b.toNat) l.toArray ++ Array.replicate (Question.cut (Question.appendCap l.length 0 e) (w.tape w.drawn (Question.appendCap l.length 0 e)) - l.length) (Value.int IntKind.u8 0)) = row := rfl
      rw [hrow]
      simp only [h1, run_freeze, Result.andThen_ok, hrs]
      congr 1
      unfold World.freeze
      rw [if_neg (by omega)]
      congr 1
      apply Array.ext_getElem?
      intro k
      rw [Array.getElem?_modify]
      by_cases hk : w.heap.size = k
      · subst hk; simp
      · rw [if_neg hk, Array.getElem?_push, Array.getElem?_push, if_neg (fun q => hk q.symm), if_neg (fun q => hk q.symm)]
    simp [execOp, ho, hx, hcv, hsb]
  · refine cells_orel rfl hrs ?_ (.inr ⟨rfl, by rw [hrs]⟩)
    have ht : row.toList.take (byteVals l).length = l.map fun b => Value.int .u8 b.toNat := by
      simp [row, byteVals_len]
    rw [ht]
    exact byteVals_rel l
  · exact ⟨_, _, _, rfl, _, 0, put_self ι id _, rfl, rfl, hcap, fun _ => rfl, .inr (by simp)⟩

end Am

namespace Am
open Go

variable {P : Program} {B nt : Nat} {ι ι' : Iota} {T : Tmps} {a : Act} {W0 w w' : World} {W0f : BaseF} {H H' : AHeap}

/-- an instruction that comes to a value -/
def ValOK (P : Program) (nt : Nat) (o : Oper) (f : BaseF → Tmps → AHeap → AOut) : Prop :=
  ∀ (B : Nat) (W0 : World) (W0f : BaseF) (H : AHeap) (ι : Iota) (T : Tmps) (a : Act) (w : World) (v : AVal) (H' : AHeap), FRel B ι nt T a → WRel B W0 H ι w → BRel B W0f W0 → f W0f T H = .val v H' →
    ∃ v' w' ι', ((execOp a.eval o).run P w = .ok (.value v') w' ∨ ((execOp a.eval o).run P w = .ok .skip w' ∧ v' = undef)) ∧ Later H ι H' ι' ∧ WRel B W0 H' ι' w' ∧ vrel B ι' v v'

def onlyVal (f : BaseF → Tmps → AHeap → AOut) : Prop := ∀ W0f T H, (∃ v H', f W0f T H = .val v H') ∨ f W0f T H = .stuck

theorem chain_of_val {o : Oper} {f : BaseF → Tmps → AHeap → AOut} (h : ValOK P nt o f) (hv : onlyVal f) : ChainOK P nt o fun W0 _ T H => f W0 T H := by
  intro B W0 W0f callf H ι T a w K Q hf hw hb _ _ hval _ _ hst
  rcases hv W0f T H with ⟨v, H', e⟩ | e
  · obtain ⟨v', w', ι', hr, h1, h2, h3⟩ := h B W0 W0f H ι T a w v H' hf hw hb e
    left
    have hk := hval v H' ι' v' w' e h1 h2 h3
    rcases hr with hr | ⟨hr, rfl⟩ <;> simp only [Oper.wp, hr, Oper.upon] <;> exact hk
  · exact absurd e hst

theorem onlyVal_pv {g : BaseF → Tmps → AHeap → Option (AVal × AHeap)} : onlyVal fun W0 T H => pv2 (g W0 T H) := by
  intro W0f T H
  cases e : g W0f T H with
  | none => right; simp [e, pv2]
  | some p => left; exact ⟨p.1, p.2, by simp [e, pv2]⟩

theorem later_same {H' : AHeap} (hn : H'.next = H.next) (hk : ∀ i, ι i = none → H'.get i = H.get i) : Later H ι H' ι :=
  ⟨Iota.le_refl ι, fun _ _ h => h, by omega, fun i _ hi => hk i hi⟩

/-! store -/
theorem store_ok {o : Oper} {t : TypeId} {n : Nat} {x y : Operand} {x' y' : Opd} (ho : o.op = .store t x y) (hn : sizeOf? P t = some n) (hx : cOpd nt x = some x') (hy : cOpd nt y = some y') :
    ValOK P nt o fun _ T H => xStore n (ev T x') (ev T y') H := by
  intro B W0 W0f H ι T a w v H' hf hw hb he
  have hxx := cOpd_ok hf hx
  have hyy := cOpd_ok hf hy
  simp only [xStore] at he
  split at he
  case h_2 => exact absurd he (by simp)
  rename_i s es
  rw [es] at hxx
  obtain ⟨z, ez, rz⟩ := vrel_ptr hxx
  cases hc : (Nat.beq (ev T y').cells.length n && allScalar (ev T y').cells) with
  | false => simp [hc] at he
  | true =>
    simp only [hc, cond_true] at he
    simp only [Bool.and_eq_true, Tree.beq_eq, decide_eq_true_eq] at hc
    cases hwc : writeCells H s (ev T y').cells with
    | none => simp [hwc, pvH] at he
    | some H2 =>
      simp [hwc, pvH] at he
      obtain ⟨rfl, rfl⟩ := he
      have hr := vrel_cells hc.2 hyy
      obtain ⟨w', h1, h2, h3, h4⟩ := writeCells_ok (P := P) hw rz hc.2 hr hwc
      have hl := lrel_length hr
      simp at hl
      refine ⟨undef, w', ι, .inr ⟨?_, rfl⟩, later_same h3 h4, h2, ⟨_, rfl, lrel_nil.2 rfl⟩⟩
      have : (storeVar t z (a.eval y)).run P w = .ok () w' := by
        unfold storeVar
        simp only [Sem.run_bind, run_size hn, Result.andThen_ok]
        rw [if_neg (by omega)]
        exact h1
      simp [execOp, ho, ez, Instr.storeAt, Instr.sureAddr, this]

theorem onlyVal_store (n : Nat) (x y : Opd) : onlyVal fun _ T H => xStore n (ev T x) (ev T y) H := by
  intro W0f T H
  simp only [xStore]
  split
  · cases (Nat.beq (ev T y).cells.length n && allScalar (ev T y).cells)
    · right; rfl
    · cases e : writeCells H _ (ev T y).cells with
      | none => right; simp [pvH]
      | some H2 => left; exact ⟨_, _, by simp [pvH]; exact ⟨rfl, rfl⟩⟩
  · right; rfl

/-! maps -/
theorem run_setObj {r : Nat} {o o' : Obj} (h : w.heap[r]? = some o) (hc : ∀ c t f, o ≠ .cells c t f) : (setObj r o').run P w = .ok () { w with heap := w.heap.setIfInBounds r o' } := by
  simp only [setObj, Sem.run, h]

theorem sameBits_ok {ki : Bool} {x : AVal} {u v : Value} (hi : keyIs ki x = true) (hu : vrel B ι x u) (hv : vrel B ι x v) : u = v := by
  cases ki <;> cases x <;> simp [keyIs] at hi <;> simp only [vrel] at hu hv <;> rw [hu, hv]

theorem putA_spec {k v : AVal} : ∀ (es es2 : List (AVal × AVal)), putA k v es = some es2 → (∃ m1 v0 m2, es = m1 ++ (k, v0) :: m2 ∧ es2 = m1 ++ (k, v) :: m2 ∧ ∀ e ∈ m1, keyEq k e.1 = some false) ∨ (es2 = es ++ [(k, v)] ∧ ∀ e ∈ es, keyEq k e.1 = some false)
  | [], es2, h => by simp [putA] at h; subst h; exact .inr ⟨rfl, by simp⟩
  | (k', v') :: es, es2, h => by
    simp only [putA] at h
    cases hb : keyEq k k' with
    | none => simp [hb] at h
    | some b =>
      cases b with
      | true =>
        simp [hb] at h; subst h
        have := keyEq_true hb; subst this
        exact .inl ⟨[], v', es, rfl, rfl, by simp⟩
      | false =>
        simp only [hb] at h
        cases hp : putA k v es with
        | none => simp [hp] at h
        | some l =>
          simp [hp] at h; subst h
          rcases putA_spec es l hp with ⟨m1, v0, m2, e1, e2, e3⟩ | ⟨e1, e2⟩
          · refine .inl ⟨(k', v') :: m1, v0, m2, by simp [e1], by simp [e2], fun e he => ?_⟩
            rcases List.mem_cons.1 he with rfl | he
            · exact hb
            · exact e3 e he
          · refine .inr ⟨by simp [e1], fun e he => ?_⟩
            rcases List.mem_cons.1 he with rfl | he
            · exact hb
            · exact e2 e he

theorem erel_append : ∀ {es fs : List (AVal × AVal)} {l m : List MapEntry}, erel B ι es l → erel B ι fs m → erel B ι (es ++ fs) (l ++ m)
  | [], _, _, _, h, h' => by have h : _ = _ := h; subst h; simpa using h'
  | (_, _) :: es, _, _, _, h, h' => by
    obtain ⟨e, r, rfl, h1, h2, h3⟩ := h
    exact ⟨e, _, rfl, h1, h2, erel_append h3 h'⟩

theorem erel_split : ∀ {m1 m2 : List (AVal × AVal)} {k v : AVal} {l : List MapEntry}, erel B ι (m1 ++ (k, v) :: m2) l → ∃ l1 e l2, l = l1 ++ e :: l2 ∧ l1.length = m1.length ∧ erel B ι m1 l1 ∧ vrel B ι k e.key ∧ vrel B ι v e.val ∧ erel B ι m2 l2
  | [], m2, k, v, l, h => by
    obtain ⟨e, r, rfl, h1, h2, h3⟩ := h
    exact ⟨[], e, r, rfl, rfl, rfl, h1, h2, h3⟩
  | (k', v') :: m1, m2, k, v, l, h => by
    obtain ⟨e, r, rfl, h1, h2, h3⟩ := h
    obtain ⟨l1, e', l2, rfl, g1, g2, g3, g4, g5⟩ := erel_split h3
    exact ⟨e :: l1, e', l2, rfl, by simp [g1], ⟨e, l1, rfl, h1, h2, g2⟩, g3, g4, g5⟩

theorem keysOK_put {m1 m2 : List (AVal × AVal)} {k v v0 : AVal} (h : keysOK (m1 ++ (k, v0) :: m2)) : keysOK (m1 ++ (k, v) :: m2) := by
  refine ⟨fun e he => ?_, ?_⟩
  · rcases List.mem_append.1 he with he | he
    · exact h.1 e (by simp [he])
    · rcases List.mem_cons.1 he with rfl | he
      · exact h.1 (k, v0) (by simp)
      · exact h.1 e (by simp [he])
  · have h2 := h.2
    rw [List.pairwise_append] at h2 ⊢
    refine ⟨h2.1, ?_, fun e he f hf => ?_⟩
    · rw [List.pairwise_cons] at h2 ⊢
      exact h2.2.1
    · rcases List.mem_cons.1 hf with rfl | hf
      · exact h2.2.2 e he (k, v0) (by simp)
      · exact h2.2.2 e he f (by simp [hf])

theorem keysOK_add {es : List (AVal × AVal)} {k v : AVal} {ki : Bool} (h : keysOK es) (hi : keyIs ki k = true) (hn : ∀ e ∈ es, keyEq k e.1 = some false) : keysOK (es ++ [(k, v)]) := by
  refine ⟨fun e he => ?_, ?_⟩
  · rcases List.mem_append.1 he with he | he
    · exact h.1 e he
    · simp at he; subst he; exact ⟨ki, hi⟩
  · rw [List.pairwise_append]
    refine ⟨h.2, by simp, fun e he f hf => ?_⟩
    simp at hf; subst hf
    rw [keyEq_comm]; exact hn e he

theorem keysOK_del {m1 m2 : List (AVal × AVal)} {e : AVal × AVal} (h : keysOK (m1 ++ e :: m2)) : keysOK (m1 ++ m2) := by
  refine ⟨fun f hf => h.1 f (by rcases List.mem_append.1 hf with hf | hf <;> simp [hf]), ?_⟩
  have h2 := h.2
  rw [List.pairwise_append] at h2 ⊢
  exact ⟨h2.1, (List.pairwise_cons.1 h2.2.1).2, fun x hx y hy => h2.2.2 x hx y (by simp [hy])⟩

theorem put_find {k v : AVal} {es es2 : List (AVal × AVal)} (h : putA k v es = some es2) : ∃ r, findA k es = some r := by
  induction es generalizing es2 with
  | nil => exact ⟨none, rfl⟩
  | cons e es ih =>
    obtain ⟨k', v'⟩ := e
    simp only [putA] at h
    cases hb : keyEq k k' with
    | none => simp [hb] at h
    | some b =>
      cases b with
      | true => exact ⟨some v', by simp [findA, hb]⟩
      | false =>
        simp only [hb] at h
        cases hp : putA k v es with
        | none => simp [hp] at h
        | some l =>
          obtain ⟨r, hr⟩ := ih hp
          exact ⟨r, by simp [findA, hb, hr]⟩

theorem modify_split {l1 l2 : List MapEntry} {e : MapEntry} {g : MapEntry → MapEntry} {ents : Array MapEntry} (h : ents.toList = l1 ++ e :: l2) : (ents.modify l1.length g).toList = l1 ++ g e :: l2 := by
  rw [Array.toList_modify, h]
  clear h
  induction l1 with
  | nil => rfl
  | cons x l1 ih => simpa [List.modify_succ_cons] using ih

theorem mapUpd_ok {o : Oper} {t kt e : TypeId} {ki : Bool} {m k x : Operand} {m' k' x' : Opd} (ho : o.op = .mapUpdate t m k x) (ht : P.underlying t = some (.map kt e)) (hk : keyT P kt = some ki)
    (hm : cOpd nt m = some m') (hkk : cOpd nt k = some k') (hx : cOpd nt x = some x') : ValOK P nt o fun _ T H => xMapUpd ki (ev T m') (ev T k') (ev T x') H := by
  intro B W0 W0f H ι T a w v H' hf hw hb he
  have hmr := cOpd_ok hf hm
  have hkr := cOpd_ok hf hkk
  have hxr := cOpd_ok hf hx
  simp only [xMapUpd] at he
  split at he
  case h_2 => exact absurd he (by simp)
  rename_i r em
  rw [em] at hmr
  obtain ⟨L, eL, ex⟩ := hmr
  split at he
  case h_2 => exact absurd he (by simp)
  rename_i es hg
  cases hik : keyIs ki (ev T k') with
  | false => simp [hik] at he
  | true =>
    simp only [hik, cond_true] at he
    cases hp : putA (ev T k') (ev T x') es with
    | none => simp [hp] at he
    | some es2 =>
      simp [hp] at he
      obtain ⟨rfl, rfl⟩ := he
      obtain ⟨ents, clock, es', h1, h2, h3, h4, h5⟩ := map_obj2 hw eL hg
      obtain ⟨res, hfa⟩ := put_find hp
      have hall := keys_all h4 h2 hfa
      have hck := checkKey_ok (P := P) (w := w) hk false hik hkr
      have hlater : Later H ι (H.set r (some (.map es2))) ι := later_same rfl fun i hi => by
        rw [AHeap.get_set, if_neg]; intro q; subst q; rw [eL] at hi; simp at hi
      rcases findKey_ok (P := P) (w := w) hk hik hkr h3 hall with ⟨q1, q2⟩ | ⟨m1, v0, m2, v', q1, q2, q3, q4⟩
      · -- a new key
        have hspec : es2 = es ++ [(ev T k', ev T x')] := by
          rcases putA_spec es es2 hp with ⟨n1, u0, n2, e1, e2, e3⟩ | ⟨e1, _⟩
          · exfalso
            have := q2 (ev T k', u0) (h2.mem_iff.2 (by rw [e1]; simp))
            rw [keyIs_self hik] at this; simp at this
          · exact e1
        have hnk : ∀ e ∈ es, keyEq (ev T k') e.1 = some false := fun e he => q2 e (h2.mem_iff.2 he)
        let ob : Obj := .map (ents.push { key := a.eval k, val := a.eval x, born := clock }) (clock + 1)
        refine ⟨undef, { w with heap := w.heap.setIfInBounds L.blk ob }, ι, .inr ⟨?_, rfl⟩, hlater, hw.put eL (by rw [hg]; simp) rfl ⟨rfl, rfl⟩ ?_, ⟨_, rfl, lrel_nil.2 rfl⟩⟩
        · have : (Instr.mapUpdate t (a.eval m) (a.eval k) (a.eval x)).run P w = .ok () { w with heap := w.heap.setIfInBounds L.blk ob } := by
            unfold Instr.mapUpdate
            simp only [Sem.run_bind, run_und ht, Result.andThen_ok, ex, run_getObj h1 (by simp), hck, q1]
            exact run_setObj h1 (by simp)
          simp [execOp, ho, this]
        · subst hspec
          refine ⟨_, _, es' ++ [(ev T k', ev T x')], rfl, h2.append_right _, ?_, keysOK_add h4 hik hnk, ?_⟩
          · simp only [Array.toList_push]
            exact erel_append h3 ⟨_, [], rfl, hkr, hxr, rfl⟩
          · simpa using bornOK_push h5
      · -- a key that is there
        subst q2
        obtain ⟨l1, en, l2, hl, hl1, g1, g2, g3, g4⟩ := erel_split h3
        have hspec : ∃ n1 u0 n2, es = n1 ++ (ev T k', u0) :: n2 ∧ es2 = n1 ++ (ev T k', ev T x') :: n2 := by
          rcases putA_spec es es2 hp with ⟨n1, u0, n2, e1, e2, e3⟩ | ⟨_, e2⟩
          · exact ⟨n1, u0, n2, e1, e2⟩
          · exfalso
            have := e2 (ev T k', v0) (h2.mem_iff.1 (by simp))
            rw [keyIs_self hik] at this; simp at this
        obtain ⟨n1, u0, n2, rfl, rfl⟩ := hspec
        obtain ⟨_, hperm⟩ := key_unique h4 h2
        let ob : Obj := .map (ents.modify m1.length fun e => { e with key := a.eval k, val := a.eval x }) clock
        refine ⟨undef, { w with heap := w.heap.setIfInBounds L.blk ob }, ι, .inr ⟨?_, rfl⟩, hlater, hw.put eL (by rw [hg]; simp) rfl ⟨rfl, rfl⟩ ?_, ⟨_, rfl, lrel_nil.2 rfl⟩⟩
        · have hkey : (((ents[m1.length]?).map (·.key)).getD (a.eval k)) = a.eval k := by
            have : ents[m1.length]? = some en := by
              rw [← Array.getElem?_toList, hl, ← hl1]; simp
            rw [this]
            exact sameBits_ok hik g2 hkr
          have hks : (Instr.keyThatStays (a.eval k) (a.eval k)).run P w = .ok (a.eval k) w := by
            unfold Instr.keyThatStays
            have : Instr.sameBits 10000 (a.eval k) (a.eval k) = true := by
              generalize a.eval k = u at hkr
              cases ki <;> cases hkv : ev T k' <;> rw [hkv] at hik hkr <;> simp [keyIs] at hik <;> simp only [vrel] at hkr <;> subst hkr <;> simp [Instr.sameBits, beq_toListBytes]
            rw [this]; simp
          have : (Instr.mapUpdate t (a.eval m) (a.eval k) (a.eval x)).run P w = .ok () { w with heap := w.heap.setIfInBounds L.blk ob } := by
            unfold Instr.mapUpdate
            simp only [Sem.run_bind, run_und ht, Result.andThen_ok, ex, run_getObj h1 (by simp), hck, q1, hkey, hks]
            exact run_setObj h1 (by simp)
          simp [execOp, ho, this]
        · refine ⟨_, _, m1 ++ (ev T k', ev T x') :: m2, rfl, ?_, ?_, keysOK_put h4, ?_⟩
          · exact List.perm_middle.trans ((hperm.cons _).trans List.perm_middle.symm)
          · rw [← hl1, modify_split hl]
            exact erel_append g1 ⟨_, l2, rfl, hkr, hxr, g4⟩
          · rw [← hl1, modify_split hl]
            rw [hl] at h5
            simpa using h5

end Am

namespace Am
open Go

variable {P : Program} {B nt : Nat} {ι ι' : Iota} {T : Tmps} {a : Act} {W0 w w' : World} {W0f : BaseF} {H H' : AHeap}

theorem growBy_le (n : Nat) : ∀ (r c : Nat), 256 ≤ c → c ≤ 2 * n → Builtin.growBy n r c ≤ 2 * n
  | 0, c, _, h => by simpa [Builtin.growBy] using h
  | r + 1, c, h0, h => by
    unfold Builtin.growBy
    by_cases hc : c ≥ n
    · rw [if_pos hc]; exact h
    · rw [if_neg hc]
      exact growBy_le n r _ (by omega) (by omega)

theorem nextcap_le {n c : Nat} (h : c < n) : Builtin.nextslicecap n c ≤ 2 * n := by
  unfold Builtin.nextslicecap
  by_cases h1 : n > 2 * c
  · rw [if_pos h1]; omega
  · rw [if_neg h1]
    by_cases h2 : c < 256
    · rw [if_pos h2]; omega
    · rw [if_neg h2]; exact growBy_le n 4 c (by omega) (by omega)

/-- the elements of what is appended -/
theorem src_ok (hw : WRel B W0 H ι w) (hb : BRel B W0f W0) {x : AVal} {u : Value} (hu : vrel B ι x u) {size n m : Nat} (hl : lenOfA x = some m) (hnm : n ≤ m) {cs : List AVal} (hs : srcCells W0f H size n x = some cs) :
    ∃ vs : List Value, lrel B ι cs vs ∧ ∀ w' : World, w'.heap = w.heap → (Builtin.firstCells size n u).run P w' = .ok vs.toArray w' := by
  cases x <;> simp [lenOfA] at hl
  · rename_i s
    simp [srcCells] at hs; subst hs
    simp only [vrel] at hu; subst hu
    refine ⟨(takeB n s).map fun b => Value.int .u8 b.toNat, byteVals_rel _, fun w' _ => ?_⟩
    have ht : ∀ (n : Nat) (s : List UInt8), takeB n s = s.take n := by
      intro n
      induction n with
      | zero => intro s; rfl
      | succ n ih => intro s; cases s with
        | nil => rfl
        | cons b s => simp [takeB, ih]
    simp [Builtin.firstCells, ht, ByteArray.data_extract, List.extract_eq_take_drop]
  · rename_i s len cap
    obtain ⟨s', l', c', eu, rz⟩ := hu
    subst eu
    subst hl
    cases s with
    | none =>
      obtain ⟨rfl, rfl, rfl, _⟩ := rz
      have : n = 0 := by omega
      subst this
      simp [srcCells] at hs; subst hs
      exact ⟨[], lrel_nil.2 rfl, fun w' _ => by simp [Builtin.firstCells]⟩
    | some s =>
      simp only [srcCells] at hs
      obtain ⟨z, vs, e, h1, h2⟩ := sl_load (P := P) hw hb rz hs (by
        rcases Nat.eq_zero_or_pos n with h | h
        · left; simp [h]
        · right; omega)
      subst e
      exact ⟨vs, h1, fun w' hw' => by simp [Builtin.firstCells, h2 w' hw']⟩

theorem lenOf_ok {x : AVal} {u : Value} (hu : vrel B ι x u) {m : Nat} (hl : lenOfA x = some m) : (Builtin.lenOf u).run P w = .ok m w := by
  cases x <;> simp [lenOfA] at hl
  · simp only [vrel] at hu; subst hu; simp [Builtin.lenOf, hl, ByteArray.size]
  · obtain ⟨s', l', c', eu, rz⟩ := hu
    subst eu
    simp [Builtin.lenOf, (srel_len rz).1, hl]

theorem srcLen {x : AVal} {size n : Nat} {cs : List AVal} (hs : srcCells W0f H size n x = some cs) (hstr : ∀ s, x = .str s → size = 1 ∧ n ≤ s.length) : cs.length = n * size := by
  cases x <;> simp [srcCells] at hs
  · rename_i s
    subst hs
    obtain ⟨h1, h2⟩ := hstr s rfl
    subst h1
    have ht : ∀ (n : Nat) (s : List UInt8), takeB n s = s.take n := by
      intro n
      induction n with
      | zero => intro s; rfl
      | succ n ih => intro s; cases s with
        | nil => rfl
        | cons b s => simp [takeB, ih]
    rw [byteVals_len, ht]; simp; omega
  · rename_i s len cap
    cases s with
    | none =>
      simp [Tree.beq_eq] at hs
      by_cases h : n = 0
      · simp [h] at hs; subst hs; simp [h]
      · simp [h] at hs
    | some s => exact readN_len hs

/-- a block of an object that is no more is taken over by a new object -/
theorem WRel.takeover (h : WRel B W0 H ι w) {i : Nat} {o : AObj} {L L' : Loc} {x : AObj} {ob : Obj} (hi : ι i = some L) (hx : H.get i = some x) (hL : L'.blk = L.blk) (hw : w'.heap = w.heap.setIfInBounds L.blk ob) (s : SameIO w w')
    (ho : orel B (ι.put H.next L') L' o (some ob)) : WRel B W0 ((H.set i none).new o) (ι.put H.next L') w' := by
  have hd := h.dom i L hi
  have hnn : ι H.next = none := h.none_next (Nat.le_refl _)
  have hsz : w'.heap.size = w.heap.size := by rw [hw]; simp
  have hold : ∀ b, b ≠ L.blk → w'.heap[b]? = w.heap[b]? := fun b hb => by rw [hw, Array.getElem?_setIfInBounds_ne (fun e => hb e.symm)]
  have hget : ∀ j, ((H.set i none).new o).get j = if j = H.next then some o else if j = i then none else H.get j := fun j => by
    rw [AHeap.get_new, AHeap.next_set, AHeap.get_set]
  have hput : ∀ j Lj, (ι.put H.next L') j = some Lj → (j = H.next ∧ Lj = L') ∨ (j ≠ H.next ∧ ι j = some Lj) := fun j Lj e => by
    unfold Iota.put at e
    by_cases hj : j = H.next
    · rw [if_pos hj] at e; cases e; exact .inl ⟨hj, rfl⟩
    · rw [if_neg hj] at e; exact .inr ⟨hj, e⟩
  have hlive : ∀ j Lj, j ≠ H.next → ι j = some Lj → ((H.set i none).new o).get j ≠ none → H.get j ≠ none ∧ Lj.blk ≠ L.blk := fun j Lj hj e hg => by
    rw [hget, if_neg hj] at hg
    by_cases hji : j = i
    · rw [if_pos hji] at hg; exact absurd rfl hg
    · rw [if_neg hji] at hg
      exact ⟨hg, fun hb => hji (h.inj j i Lj L e hi hg (by rw [hx]; simp) hb)⟩
  refine ⟨by have := h.size; omega, fun b hb => ?_, fun j Lj e => ?_, fun j k Lj Lk ej ek hj hk hb => ?_, fun j Lj y e hy => ?_, h.io' s⟩
  · rw [hold b (by omega)]; exact h.base b hb
  · rcases hput j Lj e with ⟨rfl, rfl⟩ | ⟨_, e⟩
    · exact ⟨by simp, by omega, by omega⟩
    · have := h.dom j Lj e; exact ⟨by simp; omega, this.2.1, by omega⟩
  · rcases hput j Lj ej with ⟨rfl, rfl⟩ | ⟨hjn, pj⟩ <;> rcases hput k Lk ek with ⟨rfl, rfl⟩ | ⟨hkn, pk⟩
    · rfl
    · exact absurd (by rw [← hL, hb]) (hlive k Lk hkn pk hk).2
    · exact absurd (by rw [hb, hL]) (hlive j Lj hjn pj hj).2
    · exact h.inj j k Lj Lk pj pk (hlive j Lj hjn pj hj).1 (hlive k Lk hkn pk hk).1 hb
  · rw [hget] at hy
    rcases hput j Lj e with ⟨rfl, rfl⟩ | ⟨hjn, e⟩
    · rw [if_pos rfl] at hy; cases hy
      have : w'.heap[Lj.blk]? = some ob := by rw [hL, hw]; simp [hd.2.2]
      rw [this]; exact ho
    · rw [if_neg hjn] at hy
      by_cases hji : j = i
      · rw [if_pos hji] at hy; simp at hy
      · rw [if_neg hji] at hy
        have hb : Lj.blk ≠ L.blk := fun hb => hji (h.inj j i Lj L e hi (by rw [hy]; simp) (by rw [hx]; simp) hb)
        rw [hold _ hb]
        exact orel_mono (Iota.put_le hnn) (h.obj j Lj y e hy)

theorem later_put (hw : WRel B W0 H ι w) {H' : AHeap} {L : Loc} (hn : H'.next = H.next + 1) (hk : ∀ i, i < H.next → ι i = none → H'.get i = H.get i) : Later H ι H' (ι.put H.next L) :=
  ⟨Iota.put_le (hw.none_next (Nat.le_refl _)), fun i hi hni => by unfold Iota.put; rw [if_neg (by omega)]; exact hni, by omega, hk⟩

/-- the row of a block that an append makes -/
theorem grown_row {old new : List AVal} {vo vn : List Value} (ho : lrel B ι old vo) (hn : lrel B ι new vn) (rest : Array Value) (ty : TypeId) (st : Bool) (b : Nat) (id : Nat) (hid : ι id = none) :
    orel B (ι.put id ⟨b, 0, (vo.toArray ++ vn.toArray ++ rest).size⟩) ⟨b, 0, (vo.toArray ++ vn.toArray ++ rest).size⟩ (.cells ty (old ++ new) st) (some (.cells (vo.toArray ++ vn.toArray ++ rest) ty (0, 0))) := by
  refine cells_orel rfl rfl ?_ (.inl rfl)
  have h1 := lrel_length ho
  have h2 := lrel_length hn
  have : (vo.toArray ++ vn.toArray ++ rest).toList.take (old ++ new).length = vo ++ vn := by
    simp only [Array.toList_append, List.length_append]
    rw [List.take_append_of_le_length (by simp; omega), List.take_of_length_le (by simp; omega)]
  rw [this]
  exact lrel_mono (Iota.put_le hid) _ _ (lrel_append ho hn)

/-- the append itself, in the model -/
theorem append_run {t t1 e : TypeId} {i : TypeInfo} {zv x : Value} {base : Option Addr} {len cap n : Nat} {new : List Value} (ht : P.underlying t = some (.slice e)) (hi : P.info? e = some i)
    (hu1 : (∃ q, P.underlying t1 = some (.slice q)) ∨ P.underlying t1 = some .string) (hz : ∀ w' : World, (zeroValue e).run P w' = .ok zv w') (hln : (Builtin.lenOf x).run P w = .ok n w)
    (hnew : ∀ w' : World, w'.heap = w.heap → (Builtin.firstCells i.size n x).run P w' = .ok new.toArray w') (hb : i.bytes ≠ 0) :
    (len + n ≤ cap → ∀ w', (match base with | none => w' = w | some z => (storeCells (z.add (len * i.size)) new).run P w = .ok () w') → (Builtin.append_ #[t, t1] t #[.slice base len cap, x]).run P w = .ok (.slice base (len + n) cap) w') ∧
    (¬ len + n ≤ cap → (len + n) * i.bytes ≤ bound46 → ∀ old : List Value, (∀ w' : World, w'.heap = w.heap → (Builtin.firstCells i.size len (.slice base len cap)).run P w' = .ok old.toArray w') →
      ∃ c : Nat, len + n ≤ c ∧ (Builtin.append_ #[t, t1] t #[.slice base len cap, x]).run P w = .ok (.slice (some ⟨w.heap.size, 0, none⟩) (len + n) c)
        { w with drawn := w.drawn + 1, heap := w.heap.push (.cells (old.toArray ++ new.toArray ++ Builtin.zeroCells zv.cells (c - (len + n))) e) }) := by
  have hsz : ∀ w, (Go.sizeOf e).run P w = .ok i.size w := fun w => run_size (show sizeOf? P e = some i.size by simp [sizeOf?, hi])
  constructor
  · intro hle w' hw'
    unfold Builtin.append_
    rcases hu1 with ⟨q, hd⟩ | hd
    all_goals
      simp only [List.getElem?_toArray, List.getElem?_cons_zero, List.getElem?_cons_succ, Sem.run_bind, run_und ht, Result.andThen_ok, hsz, run_und hd, Sem.run_pure, Bool.false_eq_true, if_false, hln, Bool.not_false, if_true]
      rw [if_pos hle]
      simp only [Sem.run_bind, hnew w rfl, Result.andThen_ok]
      cases base with
      | none => simp only at hw'; subst hw'; simp
      | some z => simp only at hw'; simp only [Sem.run_bind, hw', Result.andThen_ok, Sem.run_pure]
  · intro hle hbd old hold
    let q : Question := .appendCap (len + n) cap e
    refine ⟨q.cut (w.tape w.drawn q), by show len + n ≤ len + n + _; omega, ?_⟩
    have hc := nextcap_le (show cap < len + n by omega)
    have hcb : ¬ Builtin.nextslicecap (len + n) cap * i.bytes > 2 ^ 48 := by
      have h1 : Builtin.nextslicecap (len + n) cap * i.bytes ≤ 2 * (len + n) * i.bytes := Nat.mul_le_mul_right _ hc
      have h2 : 2 * (len + n) * i.bytes = 2 * ((len + n) * i.bytes) := Nat.mul_assoc _ _ _
      unfold bound46 at hbd
      omega
    unfold Builtin.append_
    rcases hu1 with ⟨q, hd⟩ | hd
    all_goals
      simp only [List.getElem?_toArray, List.getElem?_cons_zero, List.getElem?_cons_succ, Sem.run_bind, run_und ht, Result.andThen_ok, hsz, run_und hd, Sem.run_pure, Bool.false_eq_true, if_false, hln, Bool.not_false, if_true]
      rw [if_neg hle]
      simp only [Sem.run_bind, run_info hi, Result.andThen_ok, hb, or_false, and_false, if_false, hcb]
      have hch : (choose (Question.appendCap (len + n) cap e)).run P w = .ok ((Question.appendCap (len + n) cap e).cut (w.tape w.drawn (Question.appendCap (len + n) cap e))) { w with drawn := w.drawn + 1 } := by
        simp [run_choose, Question.forced]
      rw [hch]
      simp only [Result.andThen_ok, run_askRoom]
      rw [hold { w with drawn := w.drawn + 1 } rfl]
      simp only [Result.andThen_ok]
      rw [hnew { w with drawn := w.drawn + 1 } rfl]
      simp only [Result.andThen_ok, hz, newRow, Sem.run_bind, run_newObj, Sem.run_pure]
      rfl

theorem zeroCells_size (z : Array Value) (n : Nat) : (Builtin.zeroCells z n).size = n * z.size := by simp [Builtin.zeroCells]

theorem append_ok {o : Oper} {t t1 e : TypeId} {i : TypeInfo} {s x : Operand} {s' x' : Opd} {z : AVal} (ho : o.op = .call { callee := .builtin .append, args := #[s, x], argTypes := #[t, t1] }) (ht : P.underlying t = some (.slice e))
    (hu1 : (∃ q, P.underlying t1 = some (.slice q)) ∨ P.underlying t1 = some .string) (hi : P.info? e = some i) (hz : zeroA P e = some z) (hs0 : i.size ≠ 0) (hb0 : i.bytes ≠ 0) (hzl : z.cells.length = i.size)
    (hs : cOpd nt s = some s') (hx : cOpd nt x = some x') : ValOK P nt o fun W0 T H => pv2 (appendA W0 H e i.size i.bytes (ev T s') (ev T x')) := by
  intro B W0 W0f H ι T a w v H' hf hw hb he
  have hsr := cOpd_ok hf hs
  have hxr := cOpd_ok hf hx
  -- the zero value
  obtain ⟨zv, hzi, hzc⟩ : ∃ zv, i.zero = some zv ∧ liftC zv = some z := by
    unfold zeroA at hz
    simp only [hi] at hz
    cases hq : i.zero with
    | none => simp [hq] at hz
    | some zv => simp only [hq] at hz; exact ⟨zv, rfl, hz⟩
  have hzrun : ∀ w' : World, (zeroValue e).run P w' = .ok zv w' := fun w' => by simp [zeroValue, run_info hi, hzi]
  have hzs : zv.cells.size = i.size := by
    have := lrel_length (liftC_cells (B := B) (ι := ι) hzc).1
    simp at this; omega
  cases hap : appendA W0f H e i.size i.bytes (ev T s') (ev T x') with
  | none => simp [hap, pv2] at he
  | some r =>
    obtain ⟨rv, rH⟩ := r
    simp [hap, pv2] at he
    obtain ⟨rfl, rfl⟩ := he
    -- what is enough
    suffices hgo : ∃ v' w' ι', (Builtin.append_ #[t, t1] t #[a.eval s, a.eval x]).run P w = .ok v' w' ∧ Later H ι rH ι' ∧ WRel B W0 rH ι' w' ∧ vrel B ι' rv v' by
      obtain ⟨v', w', ι', h1, h2⟩ := hgo
      refine ⟨v', w', ι', .inl (call_builtin ho ?_), h2⟩
      have hty : ∀ ty, Builtin.append_ #[t, t1] ty #[a.eval s, a.eval x] = Builtin.append_ #[t, t1] t #[a.eval s, a.eval x] := fun _ => rfl
      simp only [builtin, List.map_toArray, List.map_cons, List.map_nil, Sem.run_bind, hty, h1, Result.andThen_ok, Sem.run_pure]
    unfold appendA at hap
    split at hap
    case h_2 => exact absurd hap (by simp)
    rename_i base len cap n es hln
    rw [es] at hsr
    obtain ⟨sb, sl, sc, esv, rz⟩ := hsr
    have hlen := srel_len rz
    obtain ⟨q1, q2, q3, q4⟩ := hlen
    subst q1
    have hlnr := lenOf_ok (P := P) (w := w) hxr hln
    rw [Tree.beq_eq] at hap
    by_cases hn0 : n = 0
    · -- nothing to append
      subst hn0
      simp at hap
      obtain ⟨rfl, rfl⟩ := hap
      have hsrc : ∀ w' : World, w'.heap = w.heap → (Builtin.firstCells i.size 0 (a.eval x)).run P w' = .ok ([] : List Value).toArray w' := by
        intro w' _
        cases hxe : ev T x' <;> rw [hxe] at hln hxr <;> simp [lenOfA] at hln
        · simp only [vrel] at hxr; rw [hxr]; simp [Builtin.firstCells]
        · obtain ⟨p1, p2, p3, p4, p5⟩ := hxr
          rw [p4]
          cases p1 <;> simp [Builtin.firstCells, loadCells, loadCellsFrom]
      have hrun := (append_run (P := P) (base := sb) (len := sl) (cap := sc) ht hi hu1 hzrun hlnr hsrc hb0).1 (by omega) w (by cases sb <;> simp [storeCells])
      rw [esv]
      exact ⟨_, w, ι, hrun, Later.refl H ι, hw, ⟨sb, sl, sc, rfl, rz⟩⟩
    · simp only [hn0, decide_false, cond_false] at hap
      cases hsc : srcCells W0f H i.size n (ev T x') with
      | none => simp [hsc] at hap
      | some new =>
        simp only [hsc] at hap
        cases hck : (allScalar new && (Nat.beq new.length (n * i.size) && Nat.ble ((sl + n) * i.bytes) bound46)) with
        | false => simp [hck] at hap
        | true =>
          simp only [hck, cond_true] at hap
          simp only [Bool.and_eq_true, Tree.beq_eq, decide_eq_true_eq] at hck
          obtain ⟨hscal, hnl, hbd⟩ := hck
          have hbd := Nat.le_of_ble_eq_true hbd
          obtain ⟨vn, hnr, hnrun⟩ := src_ok (P := P) hw hb hxr hln (Nat.le_refl _) hsc
          have hvl := lrel_length hnr
          have hrun := append_run (P := P) (base := sb) (len := sl) (cap := sc) ht hi hu1 hzrun hlnr hnrun hb0
          have hnn : ι H.next = none := hw.none_next (Nat.le_refl _)
          -- a new block, whatever becomes of the old object
          have grow : ∀ (old : List AVal) (vo : List Value) (H2 : AHeap) (st : Bool), ¬ sl + n ≤ sc → lrel B ι old vo → old.length = sl * i.size → (∀ w' : World, w'.heap = w.heap → (Builtin.firstCells i.size sl (.slice sb sl sc)).run P w' = .ok vo.toArray w') →
              H2.next = H.next → (∀ j, ι j = none → H2.get j = H.get j) → (∀ j L, ι j = some L → H2.get j = H.get j ∨ H2.get j = none) →
              ∃ v' w' ι', (Builtin.append_ #[t, t1] t #[a.eval s, a.eval x]).run P w = .ok v' w' ∧ Later H ι (H2.new (.cells e (old ++ new) st)) ι' ∧ WRel B W0 (H2.new (.cells e (old ++ new) st)) ι' w' ∧ vrel B ι' (.slice (some ⟨.loc H.next, 0⟩) (sl + n) (.op i.size)) v' := by
            intro old vo H2 st hnle hor hol hold hnx hk1 hk2
            obtain ⟨c, hc1, hc2⟩ := hrun.2 hnle hbd vo hold
            have hvo := lrel_length hor
            let row := vo.toArray ++ vn.toArray ++ Builtin.zeroCells zv.cells (c - (sl + n))
            have hrow : row.size = c * i.size := by
              simp only [row, Array.size_append, List.size_toArray, zeroCells_size, hzs, hvo, hvl, hol, hnl]
              rw [← Nat.add_mul, ← Nat.add_mul]
              congr 1; omega
            let L : Loc := ⟨w.heap.size, 0, row.size⟩
            refine ⟨_, _, ι.put H.next L, by rw [esv]; exact hc2, later_put hw (by simp [hnx]) (fun j hj hjn => ?_), ?_, ?_⟩
            · rw [AHeap.get_new, if_neg (by omega)]; exact hk1 j hjn
            · have hw2 : WRel B W0 H2 ι w := hw.heap (by omega) hk2
              have hw3 := hw2.grow (.cells e (old ++ new) st)
              have := hw3.place (i := H.next) (o := .cells e (old ++ new) st) (o' := .cells row e (0, 0)) (L := L) (w' := { w with drawn := w.drawn + 1, heap := w.heap.push (.cells row e) }) (by simp [hnx]) hnn rfl rfl ⟨rfl, rfl⟩ (fun y hy => by
                rw [AHeap.get_new, hnx, if_pos rfl] at hy
                cases hy
                exact grown_row hor hnr _ e st w.heap.size H.next hnn)
              exact this
            · exact ⟨_, _, _, rfl, L, 0, put_self ι H.next L, rfl, rfl, hc1, fun _ => rfl, .inr (by simp [L, hrow])⟩
          cases cap with
          | ex c =>
            have hsc2 := q4 c rfl
            subst hsc2
            simp only at hap
            cases hfit : Nat.ble (sl + n) sc with
            | true =>
              -- in place
              have hle := Nat.le_of_ble_eq_true hfit
              simp only [hfit, cond_true, fitsA] at hap
              split at hap
              case h_2 => exact absurd hap (by simp)
              rename_i p
              split at hap
              case h_2 => exact absurd hap (by simp)
              rename_i H2 hwc
              simp at hap
              obtain ⟨rfl, rfl⟩ := hap
              obtain ⟨⟨zz, e1, hz1⟩, _, _, _⟩ := rz
              subst e1
              have hz1 := hz1 (by omega)
              obtain ⟨w', g1, g2, g3, g4⟩ := writeCells_ok (P := P) hw (arel_add hz1 (sl * i.size)) hscal hnr hwc
              refine ⟨_, w', ι, by rw [esv]; exact hrun.1 hle w' g1, later_same g3 g4, g2, ⟨_, _, _, rfl, ⟨⟨zz, rfl, fun _ => hz1⟩, rfl, rfl, hle⟩⟩⟩
            | false =>
              have hnle : ¬ sl + n ≤ sc := fun q => by rw [Nat.ble_eq_true_of_le q] at hfit; simp at hfit
              simp only [hfit, cond_false, growA] at hap
              split at hap
              case h_2 => exact absurd hap (by simp)
              rename_i old hold
              simp at hap
              obtain ⟨rfl, rfl⟩ := hap
              have hsrel : vrel B ι (.slice base sl (.ex sc)) (.slice sb sl sc) := ⟨sb, sl, sc, rfl, rz⟩
              rw [es] at hold
              obtain ⟨vo, hor, horun⟩ := src_ok (P := P) hw hb hsrel rfl (Nat.le_refl _) hold
              have hol : old.length = sl * i.size := srcLen hold (fun s hs => by cases hs)
              exact grow old vo H false hnle hor hol horun rfl (fun _ _ => rfl) (fun _ _ _ => .inl rfl)
          | op e' =>
            simp only at hap
            rw [Tree.beq_eq] at hap
            by_cases hee : e' = i.size
            · subst hee
              simp only [decide_true, cond_true, ontoA] at hap
              split at hap
              case h_2 => exact absurd hap (by simp)
              rename_i j off
              split at hap
              case h_2 => exact absurd hap (by simp)
              rename_i ty cs st hg
              split at hap
              case h_2 => exact absurd hap (by simp)
              rename_i old hold
              simp at hap
              obtain ⟨rfl, rfl⟩ := hap
              obtain ⟨L, o', eL, esb, _, hlc, hoff, htot⟩ := rz
              subst esb
              obtain ⟨hot, rfl⟩ := takeN_eq _ _ _ hold
              rw [dropN_eq] at *
              have hol : ((cs.drop off).take (sl * i.size)).length = sl * i.size := by simp; simp at hot; omega
              -- the elements there were
              have hsrel : vrel B ι (.slice (some ⟨.loc j, off⟩) sl (.op i.size)) (.slice (some ⟨L.blk, o', none⟩) sl sc) := ⟨_, _, _, rfl, L, o', eL, rfl, rfl, hlc, hoff, htot⟩
              have hsrc : srcCells W0f H i.size sl (.slice (some ⟨.loc j, off⟩) sl (.op i.size)) = some ((cs.drop off).take (sl * i.size)) := by
                simp only [srcCells, readN, blkCells, hg]
                split
                · rename_i h0; rw [h0]; simp
                · rw [dropN_eq]; exact hold
              obtain ⟨vo, hor, horun⟩ := src_ok (P := P) hw hb hsrel rfl (Nat.le_refl _) hsrc
              have hvo := lrel_length hor
              by_cases hle : sl + n ≤ sc
              · -- in place, in the same block
                obtain ⟨c, ty', fr, h1, h2, h3, h4, h5⟩ := hw.obj j L _ eL hg
                have htot' : o' + sc * i.size = L.tot := htot.resolve_left (by omega)
                have hspace : (sl + n) * i.size ≤ sc * i.size := Nat.mul_le_mul_right _ hle
                have hspl : (sl + n) * i.size = sl * i.size + n * i.size := Nat.add_mul _ _ _
                obtain ⟨w', g1, g2, g3⟩ := storeCells_run (P := P) L.blk (o' + sl * i.size) vn 0 w c ty' fr h1 (lrel_vscalar hscal hnr) (by omega) (unfrozen h5)
                let L' : Loc := ⟨L.blk, o', L.tot⟩
                refine ⟨_, w', ι.put H.next L', by rw [esv]; exact hrun.1 hle w' (by show (storeCells (Addr.add ⟨L.blk, o', none⟩ (sl * i.size)) vn).run P w = _; rw [add_eq]; exact g1), later_put hw (by simp) (fun k hk hkn => ?_), ?_, ?_⟩
                · rw [AHeap.get_new, AHeap.next_set, if_neg (by omega), AHeap.get_set, if_neg]
                  intro q; subst q; rw [eL] at hkn; simp at hkn
                · refine hw.takeover eL hg rfl g2 g3 ?_
                  refine ⟨_, ty', fr, rfl, by rw [putAll_size]; exact h2, by simp [L', hol, hnl]; omega, fun k y hy => ?_, by rw [putAll_size]; exact h5⟩
                  rw [nthN_eq] at hy
                  rw [putAll_get _ _ _ _ (by omega)]
                  have hLL : L'.sh = o' := rfl
                  by_cases hk : k < sl * i.size
                  · rw [List.getElem?_append_left (by rw [hol]; exact hk)] at hy
                    rw [if_neg (by omega)]
                    rw [List.getElem?_take, if_pos hk, List.getElem?_drop] at hy
                    have hsl0 : sl ≠ 0 := by intro q; subst q; simp at hk
                    obtain ⟨v', e1, r1⟩ := h4 (off + k) y (by rw [nthN_eq]; exact hy)
                    refine ⟨v', ?_, vrel_mono (Iota.put_le hnn) _ _ r1⟩
                    rw [hLL, hoff hsl0, Nat.add_assoc]; exact e1
                  · rw [List.getElem?_append_right (by rw [hol]; omega), hol] at hy
                    have hkn : k - sl * i.size < new.length := (List.getElem?_eq_some_iff.1 hy).1
                    rw [if_pos (by omega)]
                    obtain ⟨v', e1, r1⟩ := lrel_getD hnr hy
                    refine ⟨v', ?_, vrel_mono (Iota.put_le hnn) _ _ r1⟩
                    rw [show L'.sh + k - (o' + sl * i.size + 0) = k - sl * i.size by omega]
                    exact e1
                · exact ⟨_, _, _, rfl, L', o', put_self ι H.next L', rfl, rfl, hle, fun _ => rfl, .inr htot'⟩
              · exact grow _ vo (H.set j none) st hle hor hol horun rfl
                  (fun k hk => by rw [AHeap.get_set, if_neg]; intro q; subst q; rw [eL] at hk; simp at hk)
                  (fun k Lk hk => by rw [AHeap.get_set]; by_cases q : k = j <;> simp [q])
            · simp [hee] at hap

end Am

namespace Am
open Go

variable {P : Program} {B nt : Nat} {ι ι' : Iota} {T : Tmps} {a : Act} {W0 w w' : World} {W0f : BaseF} {H H' : AHeap}

theorem clear_ok {o : Oper} {t k e : TypeId} {x : Operand} {x' : Opd} (ho : o.op = .call { callee := .builtin .clear, args := #[x], argTypes := #[t] }) (ht : P.underlying t = some (.map k e)) (hx : cOpd nt x = some x') :
    ValOK P nt o fun _ T H => xClear (ev T x') H := by
  intro B W0 W0f H ι T a w v H' hf hw hb he
  have hxr := cOpd_ok hf hx
  simp only [xClear] at he
  split at he
  · rename_i es
    rw [es] at hxr
    simp only [vrel] at hxr
    simp at he
    obtain ⟨rfl, rfl⟩ := he
    refine ⟨.tuple #[], w, ι, .inl (call_builtin ho ?_), Later.refl H ι, hw, ⟨_, rfl, lrel_nil.2 rfl⟩⟩
    simp only [builtin, Builtin.clear_, List.getElem?_toArray, List.getElem?_cons_zero, List.map_toArray, List.map_cons, List.map_nil, Sem.run_bind, run_und ht, Result.andThen_ok, hxr]
    simp
  · rename_i r es
    rw [es] at hxr
    obtain ⟨L, eL, ex⟩ := hxr
    split at he
    case h_2 => exact absurd he (by simp)
    rename_i ms hg
    simp at he
    obtain ⟨rfl, rfl⟩ := he
    obtain ⟨ents, clock, es', h1, h2, h3, h4, h5⟩ := map_obj2 hw eL hg
    refine ⟨.tuple #[], { w with heap := w.heap.setIfInBounds L.blk (.map #[] clock) }, ι, .inl (call_builtin ho ?_), later_same rfl (fun i hi => by rw [AHeap.get_set, if_neg]; intro q; subst q; rw [eL] at hi; simp at hi),
      hw.put eL (by rw [hg]; simp) rfl ⟨rfl, rfl⟩ ⟨#[], clock, [], rfl, List.Perm.refl _, rfl, ⟨by simp, List.Pairwise.nil⟩, by simp [bornOK]⟩, ⟨_, rfl, lrel_nil.2 rfl⟩⟩
    simp only [builtin, Builtin.clear_, List.getElem?_toArray, List.getElem?_cons_zero, List.map_toArray, List.map_cons, List.map_nil, Sem.run_bind, run_und ht, Result.andThen_ok, ex, run_getObj h1 (by simp), run_setObj h1 (by simp)]
    simp
  · exact absurd he (by simp)

theorem delA_spec {k : AVal} : ∀ (es es2 : List (AVal × AVal)), delA k es = some es2 → (∃ m1 v0 m2, es = m1 ++ (k, v0) :: m2 ∧ es2 = m1 ++ m2) ∨ (es2 = es ∧ ∀ e ∈ es, keyEq k e.1 = some false)
  | [], es2, h => by simp [delA] at h; subst h; exact .inr ⟨rfl, by simp⟩
  | (k', v') :: es, es2, h => by
    simp only [delA] at h
    cases hb : keyEq k k' with
    | none => simp [hb] at h
    | some b =>
      cases b with
      | true =>
        simp [hb] at h; subst h
        have := keyEq_true hb; subst this
        exact .inl ⟨[], v', es, rfl, rfl⟩
      | false =>
        simp only [hb] at h
        cases hp : delA k es with
        | none => simp [hp] at h
        | some l =>
          simp [hp] at h; subst h
          rcases delA_spec es l hp with ⟨m1, v0, m2, e1, e2⟩ | ⟨e1, e2⟩
          · exact .inl ⟨(k', v') :: m1, v0, m2, by simp [e1], by simp [e2]⟩
          · refine .inr ⟨by simp [e1], fun e he => ?_⟩
            rcases List.mem_cons.1 he with rfl | he
            · exact hb
            · exact e2 e he

theorem del_find {k : AVal} {es es2 : List (AVal × AVal)} (h : delA k es = some es2) : ∃ r, findA k es = some r := by
  induction es generalizing es2 with
  | nil => exact ⟨none, rfl⟩
  | cons e es ih =>
    obtain ⟨k', v'⟩ := e
    simp only [delA] at h
    cases hb : keyEq k k' with
    | none => simp [hb] at h
    | some b =>
      cases b with
      | true => exact ⟨some v', by simp [findA, hb]⟩
      | false =>
        simp only [hb] at h
        cases hp : delA k es with
        | none => simp [hp] at h
        | some l =>
          obtain ⟨r, hr⟩ := ih hp
          exact ⟨r, by simp [findA, hb, hr]⟩

theorem erase_split {l1 l2 : List MapEntry} {e : MapEntry} {ents : Array MapEntry} (h : ents.toList = l1 ++ e :: l2) : (ents.eraseIdxIfInBounds l1.length).toList = l1 ++ l2 := by
  have hlt : l1.length < ents.size := by
    have := congrArg List.length h
    simp at this; omega
  simp only [Array.eraseIdxIfInBounds, hlt, dite_true, Array.toList_eraseIdx, h]
  clear h hlt
  induction l1 with
  | nil => rfl
  | cons x l1 ih => simpa using ih

theorem delete_ok {o : Oper} {t t1 kt e : TypeId} {ki : Bool} {m k : Operand} {m' k' : Opd} (ho : o.op = .call { callee := .builtin .delete, args := #[m, k], argTypes := #[t, t1] }) (ht : P.underlying t = some (.map kt e)) (hk : keyT P kt = some ki)
    (hm : cOpd nt m = some m') (hkk : cOpd nt k = some k') : ValOK P nt o fun _ T H => xDelete ki (ev T m') (ev T k') H := by
  intro B W0 W0f H ι T a w v H' hf hw hb he
  have hmr := cOpd_ok hf hm
  have hkr := cOpd_ok hf hkk
  simp only [xDelete] at he
  cases hik : keyIs ki (ev T k') with
  | false => simp [hik] at he
  | true =>
    simp only [hik, cond_true] at he
    split at he
    · rename_i em
      rw [em] at hmr
      simp only [vrel] at hmr
      simp at he
      obtain ⟨rfl, rfl⟩ := he
      have hck := checkKey_ok (P := P) (w := w) hk true hik hkr
      refine ⟨.tuple #[], w, ι, .inl (call_builtin ho ?_), Later.refl H ι, hw, ⟨_, rfl, lrel_nil.2 rfl⟩⟩
      simp only [builtin, Builtin.delete_, List.getElem?_toArray, List.getElem?_cons_zero, List.getElem?_cons_succ, List.map_toArray, List.map_cons, List.map_nil, Sem.run_bind, run_und ht, Result.andThen_ok, hmr, hck]
      simp
    · rename_i r em
      rw [em] at hmr
      obtain ⟨L, eL, ex⟩ := hmr
      split at he
      case h_2 => exact absurd he (by simp)
      rename_i es hg
      split at he
      case h_2 => exact absurd he (by simp)
      rename_i es2 hd
      simp at he
      obtain ⟨rfl, rfl⟩ := he
      obtain ⟨ents, clock, es', h1, h2, h3, h4, h5⟩ := map_obj2 hw eL hg
      obtain ⟨res, hfa⟩ := del_find hd
      have hall := keys_all h4 h2 hfa
      have hck := checkKey_ok (P := P) (w := w) hk ents.isEmpty hik hkr
      have hlater : Later H ι (H.set r (some (.map es2))) ι := later_same rfl fun i hi => by
        rw [AHeap.get_set, if_neg]; intro q; subst q; rw [eL] at hi; simp at hi
      rcases findKey_ok (P := P) (w := w) hk hik hkr h3 hall with ⟨q1, q2⟩ | ⟨m1, v0, m2, v', q1, q2, q3, q4⟩
      · have hspec : es2 = es := by
          rcases delA_spec es es2 hd with ⟨n1, u0, n2, e1, e2⟩ | ⟨e1, _⟩
          · exfalso
            have := q2 (ev T k', u0) (h2.mem_iff.2 (by rw [e1]; simp))
            rw [keyIs_self hik] at this; simp at this
          · exact e1
        subst hspec
        refine ⟨.tuple #[], { w with heap := w.heap.setIfInBounds L.blk (.map ents clock) }, ι, .inl (call_builtin ho ?_), hlater, hw.put eL (by rw [hg]; simp) rfl ⟨rfl, rfl⟩ ⟨ents, clock, es', rfl, h2, h3, h4, h5⟩, ⟨_, rfl, lrel_nil.2 rfl⟩⟩
        simp only [builtin, Builtin.delete_, List.getElem?_toArray, List.getElem?_cons_zero, List.getElem?_cons_succ, List.map_toArray, List.map_cons, List.map_nil, Sem.run_bind, run_und ht, Result.andThen_ok, ex, run_getObj h1 (by simp), hck, q1, run_setObj h1 (by simp)]
        simp
      · subst q2
        obtain ⟨l1, en, l2, hl, hl1, g1, g2, g3, g4⟩ := erel_split h3
        have hspec : ∃ n1 u0 n2, es = n1 ++ (ev T k', u0) :: n2 ∧ es2 = n1 ++ n2 := by
          rcases delA_spec es es2 hd with ⟨n1, u0, n2, e1, e2⟩ | ⟨_, e2⟩
          · exact ⟨n1, u0, n2, e1, e2⟩
          · exfalso
            have := e2 (ev T k', v0) (h2.mem_iff.1 (by simp))
            rw [keyIs_self hik] at this; simp at this
        obtain ⟨n1, u0, n2, rfl, rfl⟩ := hspec
        obtain ⟨_, hperm⟩ := key_unique h4 h2
        refine ⟨.tuple #[], { w with heap := w.heap.setIfInBounds L.blk (.map (ents.eraseIdxIfInBounds m1.length) clock) }, ι, .inl (call_builtin ho ?_), hlater,
          hw.put eL (by rw [hg]; simp) rfl ⟨rfl, rfl⟩ ⟨_, _, m1 ++ m2, rfl, hperm, by rw [← hl1, erase_split hl]; exact erel_append g1 g4, keysOK_del h4, by rw [← hl1, erase_split hl]; rw [hl] at h5; simp only [List.map_append, List.map_cons] at h5 ⊢; exact bornOK_del h5⟩, ⟨_, rfl, lrel_nil.2 rfl⟩⟩
        simp only [builtin, Builtin.delete_, List.getElem?_toArray, List.getElem?_cons_zero, List.getElem?_cons_succ, List.map_toArray, List.map_cons, List.map_nil, Sem.run_bind, run_und ht, Result.andThen_ok, ex, run_getObj h1 (by simp), hck, q1, run_setObj h1 (by simp)]
        simp
    · exact absurd he (by simp)

/-! bytes that a string may share -/
theorem mark_ok {o : Oper} {t e : TypeId} {x : Operand} {x' : Opd} (ho : o.op = .convert t t x) (ht : P.underlying t = some (.slice e)) (he' : P.underlying e = some (.int .u8)) (hx : cOpd nt x = some x') :
    ValOK P nt o fun _ T H => xMark (ev T x') H := by
  intro B W0 W0f H ι T a w v H' hf hw hb he
  have hxr := cOpd_ok hf hx
  simp only [xMark] at he
  split at he
  case h_2 => exact absurd he (by simp)
  rename_i i off n c es
  rw [es] at hxr
  rw [Tree.beq_eq] at he
  by_cases hn : n = 0
  · simp [hn] at he
  simp only [hn, decide_false, cond_false] at he
  split at he
  case h_2 => exact absurd he (by simp)
  rename_i ty cs st hg
  simp at he
  obtain ⟨rfl, rfl⟩ := he
  obtain ⟨s', l', c', ex, rz⟩ := hxr
  have hblk : ∃ L z, ι i = some L ∧ s' = some z ∧ z.block = L.blk := by
    cases c with
    | ex c =>
      obtain ⟨⟨z, e1, e2⟩, _, _, e4⟩ := rz
      obtain ⟨L, q1, q2⟩ := e2 (by omega)
      exact ⟨L, z, q1, e1, by rw [q2]⟩
    | op e1 =>
      obtain ⟨L, o', q1, q2, _⟩ := rz
      exact ⟨L, _, q1, q2, rfl⟩
  obtain ⟨L, z, eL, rfl, hz⟩ := hblk
  obtain ⟨cc, ty', fr, h1, h2, h3, h4, h5⟩ := hw.obj i L _ eL hg
  have hfz : w.freeze { block := z.block, off := cc.size } 1 = { w with heap := w.heap.setIfInBounds L.blk (.cells cc ty' (cc.size, cc.size + 1)) } := by
    unfold World.freeze
    rw [if_neg (by omega)]
    congr 1
    apply Array.ext_getElem?
    intro k
    have hb : L.blk < w.heap.size := (Array.getElem?_eq_some_iff.1 h1).1
    rw [Array.getElem?_modify, hz]
    by_cases hk : L.blk = k
    · subst hk
      rw [if_pos rfl, Array.getElem?_setIfInBounds_self_of_lt hb, h1]
      rcases h5 with rfl | ⟨_, rfl⟩
      · simp
      · simp
    · rw [if_neg hk, Array.getElem?_setIfInBounds_ne hk]
  refine ⟨.slice (some z) l' c', { w with heap := w.heap.setIfInBounds L.blk (.cells cc ty' (cc.size, cc.size + 1)) }, ι, .inl ?_, later_same rfl (fun j hj => by rw [AHeap.get_set, if_neg]; intro q; subst q; rw [eL] at hj; simp at hj),
    hw.put eL (by rw [hg]; simp) rfl ⟨rfl, rfl⟩ ⟨cc, ty', _, rfl, h2, h3, h4, .inr ⟨rfl, rfl⟩⟩, ⟨_, _, _, rfl, rz⟩⟩
  have hm : (markStringish z).run P w = .ok () { w with heap := w.heap.setIfInBounds L.blk (.cells cc ty' (cc.size, cc.size + 1)) } := by
    unfold markStringish
    have : w.shape? z.block = some (ty', cc.size) := by rw [hz]; simp [World.shape?, h1]
    simp only [Sem.run_bind, run_shape, this, Result.andThen_ok, run_freeze, hfz]
  have : (convert t t (.slice (some z) l' c')).run P w = .ok (.slice (some z) l' c') { w with heap := w.heap.setIfInBounds L.blk (.cells cc ty' (cc.size, cc.size + 1)) } := by
    unfold convert
    simp only [Sem.run_bind, run_und ht, Result.andThen_ok, run_und he', BEq.rfl, hm, Sem.run_pure]
  simp [execOp, ho, ex, this]

/-! copy -/
theorem copy_ok {o : Oper} {t t1 e : TypeId} {n : Nat} {d s : Operand} {d' s' : Opd} (ho : o.op = .call { callee := .builtin .copy, args := #[d, s], argTypes := #[t, t1] }) (ht : P.underlying t = some (.slice e)) (hn : sizeOf? P e = some n)
    (hd : cOpd nt d = some d') (hs : cOpd nt s = some s') : ValOK P nt o fun W0 T H => xCopy W0 n (ev T d') (ev T s') H := by
  intro B W0 W0f H ι T a w v H' hf hw hb he
  have hdr := cOpd_ok hf hd
  have hsr := cOpd_ok hf hs
  simp only [xCopy] at he
  split at he
  case h_2 => exact absurd he (by simp)
  rename_i base dl cap sl ed hln
  rw [ed] at hdr
  obtain ⟨db, dlen, dc, edv, rz⟩ := hdr
  obtain ⟨q1, q2, q3, q4⟩ := srel_len rz
  subst q1
  have hlnr := lenOf_ok (P := P) (w := w) hsr hln
  have hmin : (bif Nat.ble sl dlen then sl else dlen) = Nat.min sl dlen := by
    cases hc : Nat.ble sl dlen with
    | true => have := Nat.le_of_ble_eq_true hc; simp only [cond_true]; exact (Nat.min_eq_left this).symm
    | false =>
      have : ¬ sl ≤ dlen := fun q => by rw [Nat.ble_eq_true_of_le q] at hc; simp at hc
      simp only [cond_false]; exact (Nat.min_eq_right (by omega)).symm
  rw [hmin] at he
  cases hsc : srcCells W0f H n (Nat.min sl dlen) (ev T s') with
  | none => simp [hsc] at he
  | some cs =>
    simp only [hsc] at he
    cases hal : allScalar cs with
    | false => simp [hal] at he
    | true =>
      simp only [hal, cond_true] at he
      obtain ⟨vs, h1, h2⟩ := src_ok (P := P) hw hb hsr hln (Nat.min_le_left _ _) hsc
      cases base with
      | none =>
        simp at he
        obtain ⟨rfl, rfl⟩ := he
        obtain ⟨rfl, rfl, _⟩ := rz
        refine ⟨.int .i64 (Nat.min sl 0), w, ι, .inl (call_builtin ho ?_), Later.refl H ι, hw, by simp [vrel]⟩
        simp only [builtin, Builtin.copy_, List.getElem?_toArray, List.getElem?_cons_zero, List.getElem?_cons_succ, List.map_toArray, List.map_cons, List.map_nil, Sem.run_bind, run_und ht, Result.andThen_ok, edv, hlnr, run_size hn, h2 w rfl]
        simp [goInt]
      | some p =>
        cases hwc : writeCells H p cs with
        | none => simp [hwc, pvH] at he
        | some H2 =>
          simp [hwc, pvH] at he
          obtain ⟨rfl, rfl⟩ := he
          -- the destination's address
          have hz : ∃ z, db = some z ∧ (cs ≠ [] → arel B ι p z) := by
            cases cap with
            | ex c =>
              obtain ⟨⟨z, e1, e2⟩, _, _, e4⟩ := rz
              refine ⟨z, e1, fun hne => e2 (fun hc => hne ?_)⟩
              have : dlen = 0 := by omega
              subst this
              have := srcLen hsc
              cases hse : ev T s' <;> rw [hse] at hsc hln <;> simp [srcCells] at hsc
              · simp [takeB] at hsc; exact hsc.symm ▸ rfl
              · rename_i x _ _
                cases x with
                | none => simp at hsc; exact hsc
                | some x => simp [readN] at hsc; exact hsc
            | op e1 =>
              obtain ⟨bl, of⟩ := p
              cases bl with
              | base _ => exact rz.elim
              | loc i =>
                obtain ⟨L, o', g1, g2, _, _, g5, _⟩ := rz
                refine ⟨_, g2, fun hne => ?_⟩
                have hd0 : dlen ≠ 0 := fun hc => by
                  subst hc
                  cases hse : ev T s' <;> rw [hse] at hsc hln <;> simp [srcCells] at hsc
                  · simp [takeB] at hsc; exact hne (hsc.symm ▸ rfl)
                  · rename_i x _ _
                    cases x with
                    | none => simp at hsc; exact hne hsc
                    | some x => simp [readN] at hsc; exact hne hsc
                have := g5 hd0
                subst this
                exact ⟨L, g1, rfl⟩
          obtain ⟨z, rfl, hz⟩ := hz
          have hst : ∃ w', (storeCells z vs).run P w = .ok () w' ∧ WRel B W0 H2 ι w' ∧ H2.next = H.next ∧ (∀ i, ι i = none → H2.get i = H.get i) := by
            by_cases hne : cs = []
            · subst hne
              rw [lrel_nil] at h1; subst h1
              simp [writeCells] at hwc; subst hwc
              exact ⟨w, by simp [storeCells], hw, rfl, fun _ _ => rfl⟩
            · exact writeCells_ok (P := P) hw (hz hne) hal h1 hwc
          obtain ⟨w', g1, g2, g3, g4⟩ := hst
          refine ⟨.int .i64 (Nat.min sl dlen), w', ι, .inl (call_builtin ho ?_), later_same g3 g4, g2, by simp [vrel]⟩
          simp only [builtin, Builtin.copy_, List.getElem?_toArray, List.getElem?_cons_zero, List.getElem?_cons_succ, List.map_toArray, List.map_cons, List.map_nil, Sem.run_bind, run_und ht, Result.andThen_ok, edv, hlnr, run_size hn, h2 w rfl, g1]
          simp [goInt]

end Am

namespace Am
open Go

variable {P : Program} {B nt : Nat} {ι ι' : Iota} {T : Tmps} {a : Act} {W0 w w' : World} {W0f : BaseF} {H H' : AHeap}

theorem only_mapUpd (ki : Bool) (m k x : Opd) : onlyVal fun _ T H => xMapUpd ki (ev T m) (ev T k) (ev T x) H := by
  intro W0f T H
  simp only [xMapUpd, cond_eq_ite]
  repeat' split
  all_goals first | exact .inr rfl | exact .inl ⟨_, _, rfl⟩
theorem only_clear (x : Opd) : onlyVal fun _ T H => xClear (ev T x) H := by
  intro W0f T H
  simp only [xClear]
  repeat' split
  all_goals first | exact .inr rfl | exact .inl ⟨_, _, rfl⟩
theorem only_delete (ki : Bool) (m k : Opd) : onlyVal fun _ T H => xDelete ki (ev T m) (ev T k) H := by
  intro W0f T H
  simp only [xDelete, cond_eq_ite]
  repeat' split
  all_goals first | exact .inr rfl | exact .inl ⟨_, _, rfl⟩
theorem only_mark (x : Opd) : onlyVal fun _ T H => xMark (ev T x) H := by
  intro W0f T H
  simp only [xMark, cond_eq_ite]
  repeat' split
  all_goals first | exact .inr rfl | exact .inl ⟨_, _, rfl⟩
theorem only_copy (n : Nat) (d s : Opd) : onlyVal fun W0 T H => xCopy W0 n (ev T d) (ev T s) H := by
  intro W0f T H
  simp only [xCopy, pvH, cond_eq_ite]
  repeat' split
  all_goals first | exact .inr rfl | exact .inl ⟨_, _, rfl⟩

/-! calls -/
/-- goes on behind a call -/
theorem call_go {o : Oper} {f : FuncId} {args : List AVal} {args' : Array Value} {callf : CallF} {K : Act → World → Prop} {Q : Exit → Act → World → Prop} (hc : CallsOK P B W0 callf) (hL : Outs Q) (hw : WRel B W0 H ι w)
    (ha : lrel B ι args args'.toList) (hrun : (execOp a.eval o).run P w = (callFunc f args').run P w) (hns : callf f args H ≠ .stuck)
    (hval : ∀ v H' ι' v' w', callf f args H = .ret v H' → Later H ι H' ι' → WRel B W0 H' ι' w' → vrel B ι' v v' → K (a.put o.dst v') w')
    (hpan : ∀ v H' ι' v' w', callf f args H = .pan v H' → Later H ι H' ι' → WRel B W0 H' ι' w' → vrel B ι' v v' → Q (.panic [{ v := v', recovered := false }]) a w') :
    o.wp P a w K Q ∨ (o.asks P a w ∧ LetsOut Q) := by
  left
  rcases hc f args H hns ι w args' hw ha with ⟨h1, h2⟩ | ⟨v, H', v', w', ι', h1, h2, h3, h4, h5⟩
  · simp only [Oper.wp, hrun, h1, Oper.upon]
    refine h2.mono fun e w' he => ?_
    obtain ⟨ι', g1, g2, g3⟩ := he
    · cases hr : callf f args H with
      | stuck => exact absurd hr hns
      | ret v H' =>
        rw [hr] at g1 g2 g3
        cases e with
        | returned v' => exact hval v H' ι' v' w' hr g1 g2 g3
        | panicked ch => exact g3.elim
        | outgrown => exact g3.elim
      | pan v H' =>
        rw [hr] at g1 g2 g3
        cases e with
        | returned v' => exact g3.elim
        | panicked ch => obtain ⟨v', rfl, g3⟩ := g3; exact hpan v H' ι' v' w' hr g1 g2 g3
        | outgrown => exact g3.elim
  · simp only [Oper.wp, hrun, h2, Oper.upon]
    exact hval v H' ι' v' w' h1 h3 h4 h5

theorem callR_val {r : CallRes} {v : AVal} {H' : AHeap} (h : callR r = .val v H') : r = .ret v H' := by cases r <;> simp [callR] at h; simp [h]
theorem callR_pan {r : CallRes} {v : AVal} {H' : AHeap} (h : callR r = .pan v H') : r = .pan v H' := by cases r <;> simp [callR] at h; simp [h]
theorem callR_stuck {r : CallRes} (h : callR r ≠ .stuck) : r ≠ .stuck := by intro e; subst e; exact h rfl
theorem callR_dfr {r : CallRes} {d : ADef} : callR r ≠ .dfr d := by cases r <;> simp [callR]

theorem callV_ok {o : Oper} {f : Operand} {args : Array Operand} {at_ : Array TypeId} {f' : Opd} {args' : List Opd} (ho : o.op = .call { callee := .value f, args, argTypes := at_ }) (hf' : cOpd nt f = some f')
    (ha' : mapOpt (cOpd nt) args.toList = some args') : ChainOK P nt o fun _ callf T H => callV callf (ev T f') (evs T args') H := by
  intro B W0 W0f callf H ι T a w K Q hf hw hb hc hL hval hpan hdfr hst
  have hfr := cOpd_ok hf hf'
  have har := cOpds_ok hf ha'
  simp only at hval hpan hst
  -- the function's value
  cases hfv : ev T f' with
  | func fn first cap =>
    cases fn with
    | func g =>
      simp only [hfv, callV] at hval hpan hst
      rw [hfv] at hfr
      obtain ⟨fi, ca, ef, r1, r2⟩ := hfr
      have hargs : lrel B ι (first ++ (evs T args' ++ cap)) (fi ++ args.map a.eval ++ ca).toList := by
        simp only [Array.toList_append, Array.toList_map, List.append_assoc]
        exact lrel_append r1 (lrel_append har r2)
      refine call_go hc hL hw hargs ?_ (callR_stuck hst) (fun v H' ι' v' w' h => hval v H' ι' v' w' (by rw [h]; rfl)) (fun v H' ι' v' w' h => hpan v H' ι' v' w' (by rw [h]; rfl))
      simp [execOp, ho, resolve, ef, Deferred.ofValue, invoke]
    | _ => simp [hfv, callV] at hst
  | _ => simp [hfv, callV] at hst

theorem dfr_ok {o : Oper} {f : Operand} {args : Array Operand} {at_ : Array TypeId} {f' : Opd} {args' : List Opd} (ho : o.op = .defer { callee := .value f, args, argTypes := at_ }) (hf' : cOpd nt f = some f')
    (ha' : mapOpt (cOpd nt) args.toList = some args') : ChainOK P nt o fun _ _ T _ => xDfr (ev T f') (evs T args') := by
  intro B W0 W0f callf H ι T a w K Q hf hw hb hc hL hval hpan hdfr hst
  have hfr := cOpd_ok hf hf'
  have har := cOpds_ok hf ha'
  simp only at hdfr hst
  cases hfv : ev T f' with
  | func fn first cap =>
    cases fn with
    | func g =>
      simp only [hfv, xDfr] at hdfr
      rw [hfv] at hfr
      obtain ⟨fi, ca, ef, r1, r2⟩ := hfr
      left
      have hrun : (execOp a.eval o).run P w = .ok (.defer { target := .fn (.func g) ca, args := fi ++ args.map a.eval }) w := by
        simp [execOp, ho, resolve, ef, Deferred.ofValue]
      simp only [Oper.wp, hrun, Oper.upon]
      refine hdfr _ _ rfl ⟨ca, fi ++ args.map a.eval, rfl, ?_⟩
      simp only [Array.toList_append, Array.toList_map, List.append_assoc]
      exact lrel_append r1 (lrel_append har r2)
    | _ => simp [hfv, xDfr] at hst
  | _ => simp [hfv, xDfr] at hst

theorem panic_ok {o : Oper} {x : Operand} {x' : Opd} (ho : o.op = .panic x) (hx : cOpd nt x = some x') : ChainOK P nt o fun _ _ T H => xPanic (ev T x') H := by
  intro B W0 W0f callf H ι T a w K Q hf hw hb hc hL hval hpan hdfr hst
  have hxr := cOpd_ok hf hx
  simp only at hpan hst
  cases hv : ev T x' with
  | iface t v =>
    rw [hv] at hxr
    obtain ⟨v', ev', rv⟩ := hxr
    left
    have hrun : (execOp a.eval o).run P w = .halt (.panic (.iface t v')) w := by simp [execOp, ho, ev', Instr.panic]
    simp only [Oper.wp, hrun, Oper.upon]
    exact hpan (.iface t v) H ι (.iface t v') w (by rw [hv]; rfl) (Later.refl H ι) hw ⟨v', rfl, rv⟩
  | _ => simp [hv, xPanic] at hst

theorem invoke_ok {o : Oper} {r : Operand} {name : String} {args : Array Operand} {at_ : Array TypeId} {r' : Opd} {args' : List Opd} (ho : o.op = .call { callee := .invoke r name, args, argTypes := at_ }) (hr' : cOpd nt r = some r')
    (ha' : mapOpt (cOpd nt) args.toList = some args') : ChainOK P nt o fun _ callf T H => xInvoke callf (methodTable P name) (ev T r') (evs T args') H := by
  intro B W0 W0f callf H ι T a w K Q hf hw hb hc hL hval hpan hdfr hst
  have hrr := cOpd_ok hf hr'
  have har := cOpds_ok hf ha'
  simp only at hval hpan hst
  cases hv : ev T r' with
  | iface t v =>
    simp only [hv, xInvoke] at hval hpan hst
    rw [hv] at hrr
    obtain ⟨v', ev', rv⟩ := hrr
    cases ht : lookT t (methodTable P name) with
    | none => simp [ht] at hst
    | some g =>
      simp only [ht] at hval hpan hst
      obtain ⟨h1, fs, h2⟩ := table_mem (lookT_mem ht)
      obtain ⟨i, m, m1, m2, m3, m4⟩ := methodRow_info h1
      have hargs : lrel B ι (v :: evs T args') (#[v'] ++ args.map a.eval).toList := by
        simp only [Array.toList_append, Array.toList_map]
        exact lrel_cons.2 ⟨_, _, rfl, rv, har⟩
      refine call_go hc hL hw hargs ?_ (callR_stuck hst) (fun v H' ι' v' w' h => hval v H' ι' v' w' (by rw [h]; rfl)) (fun v H' ι' v' w' h => hpan v H' ι' v' w' (by rw [h]; rfl))
      have hm : (method (P.types.size + Made.depth) t v' name).run P w = .ok (g, v') w := by
        have hd : P.types.size + Made.depth = (P.types.size + (Made.depth - 1)) + 1 := by
          have : Made.depth ≠ 0 := by decide
          omega
        rw [hd]
        unfold method
        simp only [Sem.run_bind, run_info m1, Result.andThen_ok, m2, m3, follow, Sem.run_pure, m4, receiverAt, run_und h2, Place.get]
      have hx : ((#[Value.iface t v'] ++ args.map a.eval).extract 1 (#[Value.iface t v'] ++ args.map a.eval).size) = args.map a.eval := by
        apply Array.ext'
        simp [List.take_of_length_le]
      have h0 : (#[Value.iface t v'] ++ args.map a.eval)[0]? = some (.iface t v') := by rw [Array.getElem?_append_left (by simp)]; rfl
      simp only [execOp, ho, resolve, ev', Sem.run_bind, Sem.run_pure, Result.andThen_ok, invoke, h0, hx, callMethod, run_program, hm]
  | _ => simp [hv, xInvoke] at hst

end Am
