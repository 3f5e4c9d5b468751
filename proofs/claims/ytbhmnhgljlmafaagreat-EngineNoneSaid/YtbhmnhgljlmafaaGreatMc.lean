/- The abstract machine: comparisons of structs and pointers. -/
import Derived.Test.YtbhmnhgljlmafaaGreatMb
set_option linter.all false

namespace Am
open Go

variable {P : Program} {B nt : Nat} {ι ι' : Iota} {T : Tmps} {a : Act} {W0 w w' : World} {W0f : BaseF} {H H' : AHeap}

/-! structs -/
theorem eqF_bool {x y : AVal} {b : Bool} (h : eqF .bool x y = some b) : ∃ p q, x = .bool p ∧ y = .bool q ∧ b = (p == q) := by
  cases x <;> cases y <;> simp [eqF] at h
  exact ⟨_, _, rfl, rfl, h.symm⟩
theorem eqF_int {x y : AVal} {b : Bool} (h : eqF .int x y = some b) : ∃ k p q, x = .int k p ∧ y = .int k q ∧ b = (p == q) := by
  cases x <;> cases y <;> simp [eqF] at h
  rename_i k p k' q
  cases hk : IntKind.beq k k' <;> simp [hk] at h
  have := kbeq_eq hk; subst this
  exact ⟨_, _, _, rfl, rfl, by rw [← h, iEq_iff]⟩
theorem eqF_float {x y : AVal} {b : Bool} (h : eqF .float x y = some b) : ∃ k p q, x = .float k p ∧ y = .float k q ∧ b = (k.format.order p q == some .eq) := by
  cases x <;> cases y <;> simp [eqF] at h
  exact ⟨_, _, _, rfl, by rw [h.1], h.2.symm⟩
theorem eqF_str {x y : AVal} {b : Bool} (h : eqF .str x y = some b) : ∃ p q, x = .str p ∧ y = .str q ∧ b = decide (p = q) := by
  cases x <;> cases y <;> simp [eqF] at h
  exact ⟨_, _, rfl, rfl, by rw [← h, bytesEq_iff]⟩

theorem fieldK_ok {t : TypeId} {k : FK} (h : fieldK P t = some k) (d : Nat) {x y : AVal} {u v : Value} {b : Bool} (he : eqF k x y = some b) (hu : vrel B ι x u) (hv : vrel B ι y v) :
    (Op.equalIn (d + 1) t u v).run P w = .ok b w := by
  unfold fieldK at h
  cases e : P.underlying t with
  | none => simp [e] at h
  | some q =>
    cases q <;> simp [e] at h <;> subst h
    · obtain ⟨p, q, rfl, rfl, rfl⟩ := eqF_bool he
      simp only [vrel] at hu hv; subst hu; subst hv
      unfold Op.equalIn; rw [Sem.run_bind, run_und e]; rfl
    · obtain ⟨k, p, q, rfl, rfl, rfl⟩ := eqF_int he
      simp only [vrel] at hu hv; subst hu; subst hv
      unfold Op.equalIn; rw [Sem.run_bind, run_und e]
      simp
    · obtain ⟨k, p, q, rfl, rfl, rfl⟩ := eqF_float he
      simp only [vrel] at hu hv; subst hu; subst hv
      unfold Op.equalIn; rw [Sem.run_bind, run_und e]
      simp [Op.floatEq]
    · obtain ⟨p, q, rfl, rfl, rfl⟩ := eqF_str he
      simp only [vrel] at hu hv; subst hu; subst hv
      unfold Op.equalIn; rw [Sem.run_bind, run_und e]
      simp [beq_toListBytes, lbeq]

theorem fieldK_part {t : TypeId} {k : FK} (h : fieldK P t = some k) {cs : Array Value} {i : Nat} {v : Value} (hv : cs[i]? = some v) : (part t cs i).run P w = .ok v w := by
  unfold fieldK at h
  cases e : P.underlying t with
  | none => simp [e] at h
  | some q => cases q <;> simp [e] at h <;> simp [part, isAgg, run_und e, hv]

theorem flat_eq (d : Nat) (xs ys : Array Value) : ∀ (fs : List Field) (i : Nat) (ks : List FK) (ps qs : List AVal) (b : Bool), flatKinds P fs i = some ks → eqFl ks ps qs = some b →
    lrel B ι ps (xs.toList.drop i) → lrel B ι qs (ys.toList.drop i) → (Op.eqFields (d + 1) xs ys fs).run P w = .ok b w
  | [], i, ks, ps, qs, b, hk, he, _, _ => by
    simp [flatKinds] at hk; subst hk
    cases ps <;> cases qs <;> simp [eqFl] at he
    subst he; simp [Op.eqFields]
  | f :: fs, i, ks, ps, qs, b, hk, he, hx, hy => by
    simp only [flatKinds] at hk
    cases hg : (Nat.beq f.offset i && f.name != "_") with
    | false => simp [hg] at hk
    | true =>
      rw [hg] at hk
      simp only [cond_true] at hk
      cases h1 : fieldK P f.type with
      | none => simp [h1] at hk
      | some k =>
        cases h2 : flatKinds P fs (i + 1) with
        | none => simp [h1, h2] at hk
        | some ks' =>
          simp [h1, h2] at hk; subst hk
          simp only [Bool.and_eq_true, bne_iff_ne] at hg
          obtain ⟨ho, hn⟩ := hg
          rw [Tree.beq_eq] at ho
          have ho : f.offset = i := by simpa using ho
          cases ps with
          | nil => simp [eqFl] at he
          | cons p ps =>
            cases qs with
            | nil => simp [eqFl] at he
            | cons q qs =>
              obtain ⟨u, us, hu, hru, hrus⟩ := lrel_cons.1 hx
              obtain ⟨v, vs, hv, hrv, hrvs⟩ := lrel_cons.1 hy
              have eu : xs[i]? = some u := by
                have := congrArg (·[0]?) hu
                simpa using this
              have ev : ys[i]? = some v := by
                have := congrArg (·[0]?) hv
                simpa using this
              have du : xs.toList.drop (i + 1) = us := by
                have := congrArg (List.drop 1) hu
                simpa [List.drop_drop, Nat.add_comm] using this
              have dv : ys.toList.drop (i + 1) = vs := by
                have := congrArg (List.drop 1) hv
                simpa [List.drop_drop, Nat.add_comm] using this
              simp only [eqFl] at he
              cases hf : eqF k p q with
              | none => simp [hf] at he
              | some r =>
                have hr := fieldK_ok (w := w) h1 d hf hru hrv
                have pu := fieldK_part (w := w) h1 eu
                have pv := fieldK_part (w := w) h1 ev
                simp only [Op.eqFields, hn, ne_eq, not_false_eq_true, if_true, Sem.run_bind, ho, pu, pv, hr, Result.andThen_ok]
                cases r with
                | false => simp [hf] at he; subst he; simp
                | true =>
                  simp [hf] at he
                  simpa using flat_eq d xs ys fs (i + 1) ks' ps qs b h2 he (by rw [du]; exact hrus) (by rw [dv]; exact hrvs)

theorem flat_guard (D : Nat) : ∀ (fs : List Field) (i : Nat) (ks : List FK), flatKinds P fs i = some ks → (fs.any fun f => f.name != "_" && P.eqGuardType (D + 1) f.type) = false
  | [], _, _, _ => rfl
  | f :: fs, i, ks, hk => by
    simp only [flatKinds] at hk
    cases hg : (Nat.beq f.offset i && f.name != "_") with
    | false => simp [hg] at hk
    | true =>
      rw [hg] at hk
      simp only [cond_true] at hk
      cases h1 : fieldK P f.type with
      | none => simp [h1] at hk
      | some k =>
        cases h2 : flatKinds P fs (i + 1) with
        | none => simp [h1, h2] at hk
        | some ks' =>
          have h3 := flat_guard D fs (i + 1) ks' h2
          have : P.eqGuardType (D + 1) f.type = false := by
            unfold fieldK at h1
            unfold Program.eqGuardType
            cases e : P.underlying f.type with
            | none => simp [e] at h1
            | some q => cases q <;> simp [e] at h1 <;> rfl
          simp only [List.any_cons, this, Bool.and_false, Bool.false_or, h3]

theorem eqAgg_ok {neg : Bool} {t : TypeId} {fs : Array Field} {ks : List FK} (ht : P.underlying t = some (.struct fs)) (hk : flatKinds P fs.toList 0 = some ks) (hs : P.stoodInHeld t = false) (x y : Operand)
    (B : Nat) (ι : Iota) (p q : AVal) (u v : Value) (w : World) (b : Bool) (h : eqAgg ks p q = some b) (hu : vrel B ι p u) (hv : vrel B ι q v) :
    (eqGuard (eqOpOf neg) t x y u v).run P w = .ok () w ∧ (binOp (eqOpOf neg) t u v).run P w = .ok (.bool (if neg then !b else b)) w := by
  unfold eqAgg at h
  split at h
  case h_2 => exact absurd h (by simp)
  rename_i ps qs
  obtain ⟨xs, rfl, hxs⟩ := hu
  obtain ⟨ys, rfl, hys⟩ := hv
  constructor
  · have hd : P.eqGuardType P.depth t = false := by
      have : P.depth = (2 * (P.types.size + Made.depth)) + 1 + 1 := rfl
      rw [this]
      unfold Program.eqGuardType
      rw [ht]
      simp only
      rw [← Array.any_toList]
      exact flat_guard _ fs.toList 0 ks hk
    cases neg <;> simp [eqGuard, eqOpOf, hd]
  · refine eq_via ?_ trivial
    rw [equal_eq]
    have hfs : P.fieldsOf t = fs := by simp [Program.fieldsOf, ht]
    rw [run_equalIn_struct w 9999 t xs ys (by rw [hfs]; exact ht) hs, hfs]
    exact flat_eq 9998 xs ys fs.toList 0 ks ps qs b hk h (by simpa using hxs) (by simpa using hys)

/-! pointers -/
theorem eqPtr_ok {o : Oper} {neg : Bool} {t e ty : TypeId} {n : Nat} {x y : Operand} {x' y' : Opd} (ho : o.op = .binOp (eqOpOf neg) t x y ty) (ht : P.underlying t = some (.pointer e)) (hn : sizeOf? P e = some n) (hn0 : n ≠ 0)
    (hx : cOpd nt x = some x') (hy : cOpd nt y = some y') : ReadOK P nt o fun _ T H => negB neg (eqPtr H (ev T x') (ev T y')) := by
  intro B W0 W0f H ι T a v w hf hw hb hv
  have hu := cOpd_ok hf hx
  have hv' := cOpd_ok hf hy
  simp only at hv
  suffices h : ∀ (b : Bool), eqPtr H (ev T x') (ev T y') = some b → (eqGuard (eqOpOf neg) t x y (a.eval x) (a.eval y)).run P w = .ok () w ∧ (binOp (eqOpOf neg) t (a.eval x) (a.eval y)).run P w = .ok (.bool (if neg then !b else b)) w by
    cases hq : eqPtr H (ev T x') (ev T y') with
    | none => simp [hq, negB] at hv
    | some b =>
      rw [hq] at hv
      have := neg_val _ _ _ hv
      subst this
      obtain ⟨h1, h2⟩ := h b hq
      exact ⟨.bool (if neg then !b else b), by simp [execOp, ho, h1, h2], rfl⟩
  intro b hq
  unfold eqPtr at hq
  split at hq
  · rename_i e1 e2
    rw [e1] at hu; rw [e2] at hv'
    simp only [vrel] at hu hv'
    simp at hq; subst hq
    rw [hu, hv']
    refine ⟨guard_vals _ _ _ _ _ _ (by simp) (by simp), eq_via ?_ trivial⟩
    rw [equal_eq]; unfold Op.equalIn; rw [Sem.run_bind, run_und ht]; rfl
  · rename_i e1 e2
    rw [e1] at hu; rw [e2] at hv'
    simp only [vrel] at hu hv'
    simp at hq; subst hq
    obtain ⟨z, ez, _⟩ := hv'
    rw [hu, ez]
    refine ⟨guard_vals _ _ _ _ _ _ (by simp) (by simp), eq_via ?_ trivial⟩
    rw [equal_eq]; unfold Op.equalIn; rw [Sem.run_bind, run_und ht]; rfl
  · rename_i e1 e2
    rw [e1] at hu; rw [e2] at hv'
    simp only [vrel] at hu hv'
    simp at hq; subst hq
    obtain ⟨z, ez, _⟩ := hu
    rw [hv', ez]
    refine ⟨guard_vals _ _ _ _ _ _ (by simp) (by simp), eq_via ?_ trivial⟩
    rw [equal_eq]; unfold Op.equalIn; rw [Sem.run_bind, run_und ht]; rfl
  · rename_i p q e1 e2
    rw [e1] at hu; rw [e2] at hv'
    simp only [vrel] at hu hv'
    obtain ⟨z, ez, rz⟩ := hu
    obtain ⟨z', ez', rz'⟩ := hv'
    rw [ez, ez']
    cases hp : (plainAt H p && plainAt H q) with
    | false => simp [hp] at hq
    | true =>
      simp [hp] at hq
      simp only [Bool.and_eq_true] at hp
      refine ⟨guard_vals _ _ _ _ _ _ (by simp) (by simp), eq_via ?_ trivial⟩
      rw [equal_eq]; unfold Op.equalIn; rw [Sem.run_bind, run_und ht]
      simp only [Result.andThen_ok, Sem.run_bind, run_size hn]
      rw [if_pos hn0]
      -- both are plain
      have plain : ∀ {s : AAddr} {z : Addr}, plainAt H s = true → arel B ι s z → ∃ i L ty cs, s.blk = .loc i ∧ ι i = some L ∧ H.get i = some (.cells ty cs false) ∧ cs ≠ [] ∧ z = ⟨L.blk, L.sh + s.off, none⟩ ∧
          (∃ c ty', w.heap[L.blk]? = some (.cells c ty' (0, 0)) ∧ c.size ≠ 0) := by
        intro s z hs hz
        obtain ⟨bl, of⟩ := s
        cases bl with
        | base _ => simp [plainAt] at hs
        | loc i =>
          obtain ⟨L, eL, rfl⟩ := hz
          simp only [plainAt] at hs
          split at hs
          case h_2 => simp at hs
          rename_i ty cs st hg
          simp at hs
          obtain ⟨rfl, hcs⟩ := hs
          obtain ⟨c, ty', fr, q1, q2, q3, q4, q5⟩ := hw.obj i L _ eL hg
          have q6 : fr = (0, 0) := by rcases q5 with q5 | ⟨q5, _⟩
                                      · exact q5
                                      · simp at q5
          rw [q6] at q1
          refine ⟨i, L, ty, cs, rfl, eL, hg, hcs, rfl, c, ty', q1, ?_⟩
          cases cs with
          | nil => exact absurd rfl hcs
          | cons => simp at q3; omega
      obtain ⟨i, L, ty, cs, b1, e3, g1, n1, rfl, c, ty', hc, hcn⟩ := plain hp.1 rz
      obtain ⟨i2, L2, ty2, cs2, b2, e4, g2, n2, rfl, c2, ty2', hc2, hcn2⟩ := plain hp.2 rz'
      simp only [sameAddr]
      by_cases hbk : L.blk = L2.blk
      · have hii : i = i2 := hw.inj i i2 L L2 e3 e4 (by rw [g1]; simp) (by rw [g2]; simp) hbk
        subst hii
        rw [e3] at e4; cases e4
        subst hq
        simp only [BEq.rfl, if_true]
        have hEq : (({ block := L.blk, off := L.sh + p.off } : Addr) == { block := L.blk, off := L.sh + q.off }) = p.beq q := by
          simp only [AAddr.beq, b1, b2, ABlk.beq, Nat.beq_refl, Bool.true_and, Tree.beq_eq]
          rw [Bool.eq_iff_iff]
          simp
        simp [hEq]
      · have hne : (L.blk == L2.blk) = false := by simpa using hbk
        have hii : i ≠ i2 := by
          intro q'; subst q'; rw [e3] at e4; cases e4; exact hbk rfl
        have hbq : p.beq q = false := by
          simp only [AAddr.beq, b1, b2, ABlk.beq, Tree.beq_eq]
          simp [hii]
        rw [hbq] at hq; subst hq
        have f1 : ∀ o', w.frozen? ⟨L.blk, o', none⟩ = false := fun o' => by simp [World.frozen?, hc]
        have f2 : ∀ o', w.frozen? ⟨L2.blk, o', none⟩ = false := fun o' => by simp [World.frozen?, hc2]
        have s1 : w.shape? L.blk = some (ty', c.size) := by simp [World.shape?, hc]
        have s2 : w.shape? L2.blk = some (ty2', c2.size) := by simp [World.shape?, hc2]
        have v1 : (viewAt L.blk).run P w = .ok none w := by simp [viewAt, s1]
        have v2 : (viewAt L2.blk).run P w = .ok none w := by simp [viewAt, s2]
        have st1 : (stringish ⟨L.blk, L.sh + p.off, none⟩).run P w = .ok false w := by simp [stringish, f1, s1]
        have st2 : (stringish ⟨L2.blk, L2.sh + q.off, none⟩).run P w = .ok false w := by simp [stringish, f2, s2]
        simp only [hne, Bool.false_eq_true, if_false, Sem.run_bind, run_frozen, Result.andThen_ok, f1, f2, Bool.false_and, noView, v1, v2, mayBeOne, st1, st2, run_shape, s2, Option.isSome_none, Sem.run_ite, Sem.run_pure, run_unsupported, Bool.or_self]
  · exact absurd hq (by simp)

end Am

namespace Am
open Go

variable {P : Program} {B nt : Nat} {ι ι' : Iota} {T : Tmps} {a : Act} {W0 w w' : World} {W0f : BaseF} {H H' : AHeap}

theorem vrel_int {k : IntKind} {n : Int} {v : Value} (h : vrel B ι (.int k n) v) : v = .int k n := h
theorem vrel_agg {cs : List AVal} {v : Value} (h : vrel B ι (.agg cs) v) : ∃ cs', v = .agg cs' ∧ lrel B ι cs cs'.toList := h

theorem unA_ok {o : Oper} {op : UnOp} {t : TypeId} {x : Operand} {y : Opd} (ho : o.op = .unOp op t x) (hy : cOpd nt x = some y) : PureOK P nt o fun T => unA op (ev T y) := by
  intro B ι T a v w hf hv
  have hx := cOpd_ok hf hy
  simp only [unA] at hv
  split at hv
  · rename_i k n e
    rw [e] at hx
    simp at hv; subst hv
    refine ⟨.int k (k.wrap (0 - n)), by simp [execOp, ho, vrel_int hx, Op.unary, Op.intArith], ?_⟩
    simp only [vrel, fwrap_eq]
    rw [show Int.neg n = 0 - n by simp; rfl]
  · rename_i k n e
    rw [e] at hx
    simp at hv; subst hv
    refine ⟨.int k (k.wrap (BitVec.ofInt k.bits (if k.signed then -1 else k.max) ^^^ BitVec.ofInt k.bits n).toNat), by simp [execOp, ho, vrel_int hx, Op.unary, Op.intBits], ?_⟩
    simp only [vrel, fwrap_eq]
    have h1 : BitVec.ofInt k.bits (if k.signed then -1 else k.max) = BitVec.allOnes k.bits := by
      cases k <;> rfl
    rw [h1, BitVec.allOnes_xor]
    have hp : pow2 k = 2 ^ k.bits := by cases k <;> rfl
    rw [natOf_eq, hp, BitVec.toNat_not]
  · rename_i k n e
    rw [e] at hx
    simp at hv; subst hv
    simp only [vrel] at hx
    exact ⟨.float k (Op.negFloat k n), by simp [execOp, ho, hx, Op.unary], by simp [vrel, Op.negFloat]⟩
  · rename_i b e
    rw [e] at hx
    simp at hv; subst hv
    simp only [vrel] at hx
    exact ⟨.bool !b, by simp [execOp, ho, hx, Op.unary], rfl⟩
  · exact absurd hv (by simp)

/-! conversions -/
theorem convInt_ok {o : Oper} {s d : TypeId} {k : IntKind} {x : Operand} {y : Opd} {ds : TypeDesc} (ho : o.op = .convert s d x) (hs : P.underlying s = some ds) (hds : (∃ q, ds = .int q) ∨ ∃ q, ds = .float q)
    (hd : P.underlying d = some (.int k)) (hy : cOpd nt x = some y) : PureOK P nt o fun T => convP (.int k) (ev T y) := by
  intro B ι T a v w hf hv
  have hx := cOpd_ok hf hy
  simp only [convP] at hv
  split at hv
  · rename_i k0 k1 n e1 e
    cases e1
    rw [e] at hx
    simp at hv; subst hv
    refine ⟨.int k (k.wrap n), ?_, by simp [vrel, fwrap_eq]⟩
    have : (convert s d (.int k1 n)).run P w = .ok (.int k (k.wrap n)) w := by
      unfold convert
      rw [Sem.run_bind, run_und hs]
      simp only [Result.andThen_ok, Sem.run_bind, run_und hd]
      rcases hds with ⟨q, rfl⟩ | ⟨q, rfl⟩ <;> rfl
    simp [execOp, ho, vrel_int hx, this]
  · rename_i k0 sf bb e1 e
    cases e1
    rw [e] at hx
    simp only [vrel] at hx
    split at hv
    case h_2 => exact absurd hv (by simp)
    rename_i n hn
    split at hv
    case isFalse => exact absurd hv (by simp)
    rename_i hr
    simp at hv; subst hv
    refine ⟨.int k n, ?_, rfl⟩
    have : (convert s d (.float sf bb)).run P w = .ok (.int k n) w := by
      unfold convert
      rw [Sem.run_bind, run_und hs]
      simp only [Result.andThen_ok, Sem.run_bind, run_und hd]
      rcases hds with ⟨q, rfl⟩ | ⟨q, rfl⟩ <;> simp [Conv.floatToInt, hn, hr]
    simp [execOp, ho, hx, this]
  · rename_i e1 _; cases e1
  · rename_i e1 _; cases e1
  · exact absurd hv (by simp)

theorem convFloat_ok {o : Oper} {s d : TypeId} {k : FloatKind} {q : IntKind} {x : Operand} {y : Opd} (ho : o.op = .convert s d x) (hs : P.underlying s = some (.int q))
    (hd : P.underlying d = some (.float k)) (hy : cOpd nt x = some y) : PureOK P nt o fun T => convP (.toFloat k) (ev T y) := by
  intro B ι T a v w hf hv
  have hx := cOpd_ok hf hy
  simp only [convP] at hv
  split at hv
  · rename_i e1 _; cases e1
  · rename_i e1 _; cases e1
  · rename_i k0 k1 n e1 e
    cases e1
    rw [e] at hx
    simp at hv; subst hv
    refine ⟨.float k (k.nearest n), ?_, rfl⟩
    have : (convert s d (.int k1 n)).run P w = .ok (.float k (k.nearest n)) w := by
      unfold convert
      rw [Sem.run_bind, run_und hs]
      simp only [Result.andThen_ok, Sem.run_bind, run_und hd]
      rfl
    simp [execOp, ho, vrel_int hx, this]
  · rename_i e1 _; cases e1
  · exact absurd hv (by simp)

theorem convSame_ok {o : Oper} {s d : TypeId} {x : Operand} {y : Opd} (ho : o.op = .convert s d x) (hs : P.underlying s = some .string)
    (hd : P.underlying d = some .string) (hy : cOpd nt x = some y) : PureOK P nt o fun T => convP .same (ev T y) := by
  intro B ι T a v w hf hv
  have hx := cOpd_ok hf hy
  simp only [convP] at hv
  split at hv
  · rename_i e1 _; cases e1
  · rename_i e1 _; cases e1
  · rename_i e1 _; cases e1
  · rename_i l _ e
    rw [e] at hx
    simp only [vrel] at hx
    simp at hv; subst hv
    refine ⟨.string ⟨l.toArray⟩, ?_, rfl⟩
    have : (convert s d (.string ⟨l.toArray⟩)).run P w = .ok (.string ⟨l.toArray⟩) w := by
      unfold convert
      rw [Sem.run_bind, run_und hs]
      simp only [Result.andThen_ok, Sem.run_bind, run_und hd]
      rfl
    simp [execOp, ho, hx, this]
  · exact absurd hv (by simp)

/-! addresses -/
theorem vrel_ptr {s : AAddr} {v : Value} (h : vrel B ι (.ptr (some s)) v) : ∃ z, v = .pointer (some z) ∧ arel B ι s z := h

theorem fieldAddr_ok {o : Oper} {t : TypeId} {f n : Nat} {fs : Array Field} {fd : Field} {x : Operand} {y : Opd} (ho : o.op = .fieldAddr t x f) (ht : P.underlying t = some (.struct fs)) (hfd : fs[f]? = some fd)
    (hn : sizeOf? P fd.type = some n) (hn0 : n ≠ 0) (hy : cOpd nt x = some y) : PureOK P nt o fun T => xFieldAddr fd.offset (ev T y) := by
  intro B ι T a v w hf hv
  have hx := cOpd_ok hf hy
  simp only [xFieldAddr] at hv
  split at hv
  case h_2 => exact absurd hv (by simp)
  rename_i s e
  rw [e] at hx
  obtain ⟨z, ez, rz⟩ := vrel_ptr hx
  simp at hv; subst hv
  refine ⟨.pointer (some (z.add fd.offset)), ?_, ⟨_, rfl, arel_add rz _⟩⟩
  simp [execOp, ho, ez, Instr.fieldAt, run_und ht, hfd, Instr.sureAddr, fieldPlace, run_size hn, hn0]

theorem idxArr_ok {o : Oper} {t e : TypeId} {len n : Nat} {x i : Operand} {y j : Opd} (ho : o.op = .indexAddr t x i) (ht : P.underlying t = some (.array len e)) (hn : sizeOf? P e = some n)
    (hy : cOpd nt x = some y) (hj : cOpd nt i = some j) : PureOK P nt o fun T => xIdxArr len n (ev T y) (ev T j) := by
  intro B ι T a v w hf hv
  have hx := cOpd_ok hf hy
  have hi := cOpd_ok hf hj
  simp only [xIdxArr] at hv
  split at hv
  case h_2 => exact absurd hv (by simp)
  rename_i s k m e1 e2
  rw [e1] at hx; rw [e2] at hi
  obtain ⟨z, ez, rz⟩ := vrel_ptr hx
  have ei := vrel_int hi
  cases hlt : Nat.blt m len with
  | false => simp [hlt] at hv
  | true =>
    simp [hlt] at hv; subst hv
    have hml : m < len := by simp [Nat.blt] at hlt; omega
    refine ⟨.pointer (some (z.add (m * n))), ?_, ⟨_, rfl, arel_add rz _⟩⟩
    have hc : (0 : Int) ≤ Int.ofNat m ∧ Int.ofNat m < (len : Int) := ⟨Int.natCast_nonneg m, Int.ofNat_lt.2 hml⟩
    simp only [execOp, ho, Sem.run_bind, Instr.indexAt, ez, ei, asIntOf, Sem.run_pure, Result.andThen_ok, run_und ht, Instr.sureAddr]
    rw [if_pos hc]
    simp [run_size hn]

theorem idxSl_ok {o : Oper} {t e : TypeId} {n : Nat} {x i : Operand} {y j : Opd} (ho : o.op = .indexAddr t x i) (ht : P.underlying t = some (.slice e)) (hn : sizeOf? P e = some n)
    (hy : cOpd nt x = some y) (hj : cOpd nt i = some j) : PureOK P nt o fun T => xIdxSl n (ev T y) (ev T j) := by
  intro B ι T a v w hf hv
  have hx := cOpd_ok hf hy
  have hi := cOpd_ok hf hj
  simp only [xIdxSl] at hv
  split at hv
  case h_2 => exact absurd hv (by simp)
  rename_i s len c k m e1 e2
  rw [e1] at hx; rw [e2] at hi
  obtain ⟨s', l', c', ez, rz⟩ := hx
  have ei := vrel_int hi
  cases hlt : Nat.blt m len with
  | false => simp [hlt] at hv
  | true =>
    simp [hlt] at hv; subst hv
    have hml : m < len := by simp [Nat.blt] at hlt; omega
    have hz : ∃ z, s' = some z ∧ l' = len ∧ arel B ι s z := by
      cases c with
      | ex c => obtain ⟨⟨z, q1, q2⟩, q3, q4, q5⟩ := rz; exact ⟨z, q1, q3, q2 (by omega)⟩
      | op e =>
        obtain ⟨bl, of⟩ := s
        cases bl with
        | base _ => exact rz.elim
        | loc i =>
          obtain ⟨L, o', q1, q2, q3, q4, q5, _⟩ := rz
          have := q5 (by omega)
          subst this
          exact ⟨_, q2, q3, L, q1, rfl⟩
    obtain ⟨z, rfl, rfl, rz'⟩ := hz
    refine ⟨.pointer (some (z.add (m * n))), ?_, ⟨_, rfl, arel_add rz' _⟩⟩
    have hc : (0 : Int) ≤ Int.ofNat m ∧ Int.ofNat m < (l' : Int) := ⟨Int.natCast_nonneg m, Int.ofNat_lt.2 hml⟩
    simp only [execOp, ho, Sem.run_bind, Instr.indexAt, ez, ei, asIntOf, Sem.run_pure, Result.andThen_ok, run_und ht]
    rw [if_pos hc]
    simp [run_size hn]

/-! parts -/
theorem field1_ok {o : Oper} {t : TypeId} {f : Nat} {fs : Array Field} {fd : Field} {x : Operand} {y : Opd} (ho : o.op = .field t x f) (ht : P.underlying t = some (.struct fs)) (hfd : fs[f]? = some fd)
    (hn : shapeOf P fd.type = some none) (hy : cOpd nt x = some y) : PureOK P nt o fun T => xField1 fd.offset (ev T y) := by
  intro B ι T a v w hf hv
  have hx := cOpd_ok hf hy
  simp only [xField1] at hv
  split at hv
  case h_2 => exact absurd hv (by simp)
  rename_i cs e
  rw [e] at hx
  obtain ⟨cs', ec, rc⟩ := vrel_agg hx
  obtain ⟨v', h1, h2⟩ := lrel_get rc hv
  refine ⟨v', ?_, h2⟩
  have h1' : cs'[fd.offset]? = some v' := by simpa using h1
  simp [execOp, ho, ec, Instr.field, run_und ht, hfd, asAgg, part, (run_isAgg hn).1, h1']

theorem lrel_take : ∀ (n : Nat) {as : List AVal} {vs : List Value}, lrel B ι as vs → lrel B ι (as.take n) (vs.take n)
  | 0, _, _, _ => by simp [lrel]
  | n + 1, [], _, h => by rw [lrel_nil] at h; subst h; simp [lrel]
  | n + 1, x :: as, _, h => by
    obtain ⟨v, vs, rfl, h1, h2⟩ := lrel_cons.1 h
    simp only [List.take_succ_cons]
    exact lrel_cons.2 ⟨v, _, rfl, h1, lrel_take n h2⟩

theorem lrel_drop : ∀ (n : Nat) {as : List AVal} {vs : List Value}, lrel B ι as vs → lrel B ι (as.drop n) (vs.drop n)
  | 0, _, _, h => by simpa using h
  | n + 1, [], _, h => by rw [lrel_nil] at h; subst h; simp [lrel]
  | n + 1, x :: as, _, h => by
    obtain ⟨v, vs, rfl, h1, h2⟩ := lrel_cons.1 h
    simp only [List.drop_succ_cons]
    exact lrel_drop n h2

theorem fieldN_ok {o : Oper} {t : TypeId} {f n : Nat} {fs : Array Field} {fd : Field} {x : Operand} {y : Opd} (ho : o.op = .field t x f) (ht : P.underlying t = some (.struct fs)) (hfd : fs[f]? = some fd)
    (hn : shapeOf P fd.type = some (some n)) (hy : cOpd nt x = some y) : PureOK P nt o fun T => xFieldN fd.offset n (ev T y) := by
  intro B ι T a v w hf hv
  have hx := cOpd_ok hf hy
  simp only [xFieldN] at hv
  split at hv
  case h_2 => exact absurd hv (by simp)
  rename_i cs e
  rw [e] at hx
  obtain ⟨cs', ec, rc⟩ := vrel_agg hx
  cases ht2 : takeN n (dropN fd.offset cs) with
  | none => simp [ht2, aggO] at hv
  | some l =>
    simp [ht2, aggO] at hv; subst hv
    obtain ⟨hle, rfl⟩ := takeN_eq _ _ _ ht2
    rw [dropN_eq] at *
    obtain ⟨h1, h2⟩ := run_isAgg (w := w) hn
    have h3 := run_size (P := P) (w := w) (h2 n rfl)
    refine ⟨.agg (cs'.extract fd.offset (fd.offset + n)), ?_, ⟨_, rfl, ?_⟩⟩
    · simp [execOp, ho, ec, Instr.field, run_und ht, hfd, asAgg, part, h1, h3]
    · have := lrel_take n (lrel_drop fd.offset rc)
      simpa [Array.toList_extract, List.extract_eq_take_drop, Nat.add_sub_cancel_left] using this

theorem index1_ok {o : Oper} {t e : TypeId} {len : Nat} {x i : Operand} {y j : Opd} (ho : o.op = .index t x i) (ht : P.underlying t = some (.array len e)) (hs : shapeOf P e = some none) (hn : sizeOf? P e = some 1)
    (hy : cOpd nt x = some y) (hj : cOpd nt i = some j) : PureOK P nt o fun T => xIndex1 len (ev T y) (ev T j) := by
  intro B ι T a v w hf hv
  have hx := cOpd_ok hf hy
  have hi := cOpd_ok hf hj
  simp only [xIndex1] at hv
  split at hv
  case h_2 => exact absurd hv (by simp)
  rename_i cs k m e1 e2
  rw [e1] at hx; rw [e2] at hi
  obtain ⟨cs', ec, rc⟩ := vrel_agg hx
  have ei := vrel_int hi
  cases hlt : Nat.blt m len with
  | false => simp [hlt] at hv
  | true =>
    simp only [hlt, cond_true] at hv
    have hml : m < len := by simp [Nat.blt] at hlt; omega
    obtain ⟨v', h1, h2⟩ := lrel_get rc hv
    have h1' : cs'[m]? = some v' := by simpa using h1
    refine ⟨v', ?_, h2⟩
    have hc : (0 : Int) ≤ Int.ofNat m ∧ Int.ofNat m < (len : Int) := ⟨Int.natCast_nonneg m, Int.ofNat_lt.2 hml⟩
    simp only [execOp, ho, Sem.run_bind, Instr.index, ec, ei, asIntOf, Sem.run_pure, Result.andThen_ok, run_und ht]
    rw [if_pos hc]
    simp [run_size hn, part, (run_isAgg hs).1, h1']

theorem nthB_eq : ∀ (n : Nat) (l : List UInt8), nthB n l = l[n]?
  | _, [] => by cases ‹Nat› <;> simp [nthB]
  | 0, x :: l => by simp [nthB]
  | n + 1, x :: l => by simp [nthB, nthB_eq n l]

theorem indexStr_ok {o : Oper} {t : TypeId} {x i : Operand} {y j : Opd} (ho : o.op = .index t x i) (ht : P.underlying t = some .string)
    (hy : cOpd nt x = some y) (hj : cOpd nt i = some j) : PureOK P nt o fun T => xIndexStr (ev T y) (ev T j) := by
  intro B ι T a v w hf hv
  have hx := cOpd_ok hf hy
  have hi := cOpd_ok hf hj
  simp only [xIndexStr] at hv
  split at hv
  case h_2 => exact absurd hv (by simp)
  rename_i s k m e1 e2
  rw [e1] at hx; rw [e2] at hi
  simp only [vrel] at hx
  have ei := vrel_int hi
  split at hv
  case h_2 => exact absurd hv (by simp)
  rename_i b hb
  rw [nthB_eq] at hb
  simp at hv; subst hv
  refine ⟨.int .u8 b.toNat, ?_, by simp [vrel]⟩
  have hg : (⟨s.toArray⟩ : ByteArray)[m]? = some b := by
    obtain ⟨h1, h2⟩ := List.getElem?_eq_some_iff.1 hb
    have hsz : m < (⟨s.toArray⟩ : ByteArray).size := by simpa [ByteArray.size] using h1
    rw [getElem?_pos (⟨s.toArray⟩ : ByteArray) m hsz]
    congr 1
  simp only [execOp, ho, Sem.run_bind, Instr.index, hx, ei, asIntOf, Sem.run_pure, Result.andThen_ok, run_und ht]
  rw [if_pos (show (0 : Int) ≤ Int.ofNat m from Int.natCast_nonneg m)]
  simp [hg]

end Am

namespace Am
open Go

variable {P : Program} {B nt : Nat} {ι ι' : Iota} {T : Tmps} {a : Act} {W0 w w' : World} {W0f : BaseF} {H H' : AHeap}

/-! ## aggregates -/
theorem fold_put (off : Nat) : ∀ (l : List Value) (k : Nat) (c : Array Value), (l.zipIdx k).foldl (fun cs p => cs.setIfInBounds (off + p.2) p.1) c = putAll c (off + k) l
  | [], _, _ => rfl
  | v :: l, k, c => by
    simp only [List.zipIdx_cons, List.foldl_cons, putAll]
    rw [fold_put off l (k + 1)]
    rfl

theorem fold_put' (off : Nat) (v c : Array Value) : (v.zipIdx.foldl (fun cs (x, j) => cs.setIfInBounds (off + j) x) c) = putAll c off v.toList := by
  rw [← Array.foldl_toList, Array.toList_zipIdx]
  exact fold_put off v.toList 0 c

theorem lrel_put {as bs : List AVal} {off : Nat} {bs' : List AVal} {c : Array Value} {vs : List Value} (hs : setCells bs off as = some bs') (hr : lrel B ι as vs) (hc : lrel B ι bs c.toList) :
    lrel B ι bs' (putAll c off vs).toList := by
  by_cases he : as = []
  · subst he
    rw [lrel_nil] at hr; subst hr
    simp [setCells] at hs; subst hs
    exact hc
  · obtain ⟨s1, s2, s3⟩ := setCells_spec _ _ _ _ hs he
    have hl := lrel_length hr
    have hcl := lrel_length hc
    simp at hcl
    refine lrel_of_get (by simp [putAll_size]; omega) fun j v hv => ?_
    rw [s3] at hv
    simp only [Array.getElem?_toList]
    rw [putAll_get _ _ _ _ (by omega)]
    by_cases hj : off ≤ j ∧ j < off + as.length
    · rw [if_pos hj] at hv
      rw [if_pos (by omega)]
      exact lrel_getD hr hv
    · rw [if_neg hj] at hv
      rw [if_neg (by omega)]
      simpa using lrel_getD hc hv

theorem fill_ok {place place' : Nat → Option (Nat × Nat)} (hp : ∀ i q, place i = some q → place' i = some q) (hf : FRel B ι nt T a) :
    ∀ (ps : List (Nat × Operand)) (qs : List (Nat × Nat × Opd)) (zs zs' : List AVal) (cs : Array Value), cParts nt ps place = some qs → fillA T zs qs = some zs' → lrel B ι zs cs.toList →
      ∃ cs', Instr.fill place' cs (ps.map fun p => (p.1, a.eval p.2)) = some cs' ∧ lrel B ι zs' cs'.toList
  | [], qs, zs, zs', cs, hq, hz, hc => by
    have := mapOpt_nil hq; subst this
    simp [fillA] at hz; subst hz
    exact ⟨cs, rfl, hc⟩
  | (i, x) :: ps, qs, zs, zs', cs, hq, hz, hc => by
    obtain ⟨q, qs', h1, h2, rfl⟩ := mapOpt_cons hq
    simp only at h1
    cases hpl : place i with
    | none => simp [hpl] at h1
    | some os =>
      cases hx : cOpd nt x with
      | none => simp [hpl, hx] at h1
      | some y =>
        simp [hpl, hx] at h1; subst h1
        obtain ⟨off, size⟩ := os
        simp only [fillA] at hz
        cases hb : (Nat.beq (ev T y).cells.length size && (Nat.ble (off + size) zs.length && allScalar (ev T y).cells)) with
        | false => simp [hb] at hz
        | true =>
          simp only [hb, cond_true] at hz
          simp only [Bool.and_eq_true] at hb
          obtain ⟨hb1, hb2, hb3⟩ := hb
          rw [Tree.beq_eq] at hb1
          have hb1 : (ev T y).cells.length = size := by simpa using hb1
          have hb2 := Nat.le_of_ble_eq_true hb2
          cases hs : setCells zs off (ev T y).cells with
          | none => simp [hs] at hz
          | some zs1 =>
            simp [hs] at hz
            have hv := vrel_cells hb3 (cOpd_ok hf hx)
            have hl := lrel_length hv
            simp at hl
            have hcl := lrel_length hc
            simp at hcl
            obtain ⟨cs', h3, h4⟩ := fill_ok hp hf ps qs' zs1 zs' _ h2 hz (lrel_put hs hv hc)
            refine ⟨cs', ?_, h4⟩
            simp only [List.map_cons, Instr.fill, hp i _ hpl]
            rw [if_neg (by simp; omega), fold_put']
            exact h3

theorem allSized_run : ∀ (fs : List Field), allSized P fs = true → (fs.mapM (m := Sem) fun f => do pure (f.offset, ← Go.sizeOf f.type)).run P w = .ok (fs.map fun f => (f.offset, P.cellsOf f.type)) w
  | [], _ => by simp
  | f :: fs, h => by
    simp only [allSized, Bool.and_eq_true] at h
    cases hs : sizeOf? P f.type with
    | none => simp [hs] at h
    | some n =>
      have hn : P.cellsOf f.type = n := by
        unfold sizeOf? at hs
        cases e : P.info? f.type with
        | none => simp [e] at hs
        | some i => simp [e] at hs; subst hs; simp [Program.cellsOf, e]
      have ih := allSized_run fs h.2
      simp only [bind_pure_comp] at ih
      simp [run_size hs, ih, hn]

theorem cells_eq {t : TypeId} {n : Nat} (hs : sizeOf? P t = some n) : P.cellsOf t = n := by
  unfold sizeOf? at hs
  cases e : P.info? t with
  | none => simp [e] at hs
  | some i => simp [e] at hs; subst hs; simp [Program.cellsOf, e]

theorem liftC_cells {v : Value} {z : AVal} (h : liftC v = some z) : lrel B ι z.cells v.cells.toList ∧ (z ≠ .undef → allScalar z.cells = true) := by
  cases v with
  | agg cs =>
    simp only [liftC] at h
    split at h <;> simp at h
    subst h
    rename_i l e
    exact ⟨(lift0s_ok e).1, fun _ => (lift0s_ok (B := B) (ι := ι) e).2⟩
  | tuple vs =>
    simp only [liftC] at h
    split at h <;> simp at h
    subst h
    rename_i e
    refine ⟨?_, fun q => absurd rfl q⟩
    exact lrel_cons.2 ⟨_, [], rfl, ⟨vs, rfl, lrel_nil.2 e⟩, lrel_nil.2 rfl⟩
  | _ =>
    have h0 := lift0_ok (B := B) (ι := ι) (by simpa [liftC] using h)
    have hs : allScalar z.cells = true := by
      cases z <;> simp [AVal.scalar] at h0 <;> simp [AVal.cells, allScalar, AVal.scalar]
    exact ⟨vrel_cells hs h0.1, fun _ => hs⟩

theorem buildS_ok {o : Oper} {t : TypeId} {ps : Array (Nat × Operand)} {fs : Array Field} {z : AVal} {qs : List (Nat × Nat × Opd)} (ho : o.op = .build t ps) (ht : P.underlying t = some (.struct fs)) (hz : zeroA P t = some z)
    (ha : allSized P fs.toList = true)
    (hq : cParts nt ps.toList (fun i => match fs[i]? with | some f => (match sizeOf? P f.type with | some n => some (f.offset, n) | none => none) | none => none) = some qs) :
    PureOK P nt o fun T => aggO (fillA T z.cells qs) := by
  intro B ι T a v w hf hv
  cases hfl : fillA T z.cells qs with
  | none => simp [hfl, aggO] at hv
  | some zs =>
    simp [hfl, aggO] at hv; subst hv
    obtain ⟨zv, h1, _, h2⟩ := run_zero (w := w) (B := B) (ι := ι) hz
    have hc := (liftC_cells (B := B) (ι := ι) h2).1
    obtain ⟨cs', h3, h4⟩ := fill_ok (place' := fun i => (fs.toList.map fun f => (f.offset, P.cellsOf f.type)).toArray[i]?) (fun i q hi => by
      cases hfi : fs[i]? with
      | none => simp [hfi] at hi
      | some f =>
        cases hn : sizeOf? P f.type with
        | none => simp [hfi, hn] at hi
        | some n =>
          simp [hfi, hn] at hi; subst hi
          simp [hfi, cells_eq hn]) hf ps.toList qs z.cells zs zv.cells hq hfl hc
    refine ⟨.agg cs', ?_, ⟨cs', rfl, h4⟩⟩
    have hm : (fs.mapM (m := Sem) fun f => do pure (f.offset, ← Go.sizeOf f.type)).run P w = .ok (fs.toList.map fun f => (f.offset, P.cellsOf f.type)).toArray w := by
      rw [Array.mapM_eq_mapM_toList]
      simp only [Sem.run_map, allSized_run (w := w) fs.toList ha, Result.andThen_ok]
    have hb : (Instr.build t (ps.map fun p => (p.1, a.eval p.2))).run P w = .ok (.agg cs') w := by
      unfold Instr.build
      simp only [Sem.run_bind, h1, Result.andThen_ok, run_und ht, hm]
      have : (ps.map fun p => (p.1, a.eval p.2)).toList = ps.toList.map fun p => (p.1, a.eval p.2) := by simp
      rw [this, h3]
      rfl
    simp [execOp, ho, hb]

theorem buildA_ok {o : Oper} {t e : TypeId} {len size : Nat} {ps : Array (Nat × Operand)} {z : AVal} {qs : List (Nat × Nat × Opd)} (ho : o.op = .build t ps) (ht : P.underlying t = some (.array len e)) (hz : zeroA P t = some z)
    (hs : sizeOf? P e = some size) (hq : cParts nt ps.toList (fun i => some (i * size, size)) = some qs) :
    PureOK P nt o fun T => aggO (fillA T z.cells qs) := by
  intro B ι T a v w hf hv
  cases hfl : fillA T z.cells qs with
  | none => simp [hfl, aggO] at hv
  | some zs =>
    simp [hfl, aggO] at hv; subst hv
    obtain ⟨zv, h1, _, h2⟩ := run_zero (w := w) (B := B) (ι := ι) hz
    have hc := (liftC_cells (B := B) (ι := ι) h2).1
    obtain ⟨cs', h3, h4⟩ := fill_ok (place' := fun i => some (i * size, size)) (fun i q hi => hi) hf ps.toList qs z.cells zs zv.cells hq hfl hc
    refine ⟨.agg cs', ?_, ⟨cs', rfl, h4⟩⟩
    have hb : (Instr.build t (ps.map fun p => (p.1, a.eval p.2))).run P w = .ok (.agg cs') w := by
      unfold Instr.build
      simp only [Sem.run_bind, h1, Result.andThen_ok, run_und ht, run_size hs]
      have : (ps.map fun p => (p.1, a.eval p.2)).toList = ps.toList.map fun p => (p.1, a.eval p.2) := by simp
      rw [this, h3]
      rfl
    simp [execOp, ho, hb]

/-! ## slices -/
theorem bound_ok {x : AVal} {v : Value} {hi n y : Nat} (h : boundA x hi = some n) (hv : vrel B ι x v) (hy : hi ≤ y) (code : BoundsCode) : (Instr.sliceBound v y code).run P w = .ok n w ∧ n ≤ hi := by
  unfold boundA at h
  split at h
  case h_2 => exact absurd h (by simp)
  rename_i k m
  cases hb : Nat.ble m hi with
  | false => simp [hb] at h
  | true =>
    simp [hb] at h; subst h
    have := Nat.le_of_ble_eq_true hb
    refine ⟨?_, this⟩
    rw [vrel_int hv]
    unfold Instr.sliceBound
    simp only [Sem.run_bind, asIntOf, Sem.run_pure, Result.andThen_ok]
    rw [if_pos ⟨Int.natCast_nonneg m, by show (m : Int) ≤ y; omega⟩]
    rfl

theorem boundO_ok {x : Option AVal} {v : Option Value} {d hi n : Nat} (h : boundO x d hi = some n) (hv : orel1 B ι x v) : (x = none ∧ v = none ∧ n = d) ∨ ∃ y u, x = some y ∧ v = some u ∧ boundA y hi = some n ∧ vrel B ι y u := by
  cases x with
  | none => simp [boundO] at h; exact .inl ⟨rfl, hv, h.symm⟩
  | some y => obtain ⟨u, e, r⟩ := hv; exact .inr ⟨y, u, rfl, e, h, r⟩

/-- what the model makes of a slice's bounds -/
theorem bounds_ok {lo hi mx : Option AVal} {lo' hi' mx' : Option Value} {len cap' : Nat} {cap : ACap} (isSl : Bool) {z : AVal} {size : Nat} {s : Option AAddr}
    (h : sliceA size s len cap lo hi mx = some z) (hlo : orel1 B ι lo lo') (hhi : orel1 B ι hi hi') (hmx : orel1 B ι mx mx') (hle : topA cap len ≤ cap') (hlen : len ≤ topA cap len) :
    ∃ l h' m', (Instr.sliceBounds isSl len cap' lo' hi' mx').run P w = .ok (l, h', m') w ∧ l ≤ h' ∧ h' ≤ m' ∧ h' ≤ topA cap len ∧
      ((mx = none ∧ m' = cap' ∧ cutSl size s l h' cap = some z) ∨ (m' ≤ topA cap len ∧ cutSl size s l h' (.ex m') = some z)) := by
  unfold sliceA at h
  cases mx with
  | none =>
    simp only [orel1] at hmx; subst hmx
    simp only at h
    cases h1 : boundO hi len (topA cap len) with
    | none => simp [h1] at h
    | some hh =>
      simp only [h1] at h
      cases h2 : boundO lo 0 hh with
      | none => simp [h2] at h
      | some l =>
        simp only [h2] at h
        rcases boundO_ok h1 hhi with ⟨rfl, rfl, rfl⟩ | ⟨y, u, rfl, rfl, q1, q2⟩
        · rcases boundO_ok h2 hlo with ⟨rfl, rfl, rfl⟩ | ⟨y', u', rfl, rfl, q3, q4⟩
          · exact ⟨0, hh, cap', by simp [Instr.sliceBounds], Nat.zero_le _, by omega, hlen, .inl ⟨rfl, rfl, h⟩⟩
          · obtain ⟨e1, e2⟩ := bound_ok (P := P) (w := w) q3 q4 (Nat.le_refl _) .sliceB
            exact ⟨l, hh, cap', by simp [Instr.sliceBounds, e1], e2, by omega, hlen, .inl ⟨rfl, rfl, h⟩⟩
        · obtain ⟨e3, e4⟩ := bound_ok (P := P) (w := w) q1 q2 hle (if isSl then BoundsCode.sliceAcap else BoundsCode.sliceAlen)
          rcases boundO_ok h2 hlo with ⟨rfl, rfl, rfl⟩ | ⟨y', u', rfl, rfl, q3, q4⟩
          · exact ⟨0, hh, cap', by simp [Instr.sliceBounds, e3], Nat.zero_le _, by omega, e4, .inl ⟨rfl, rfl, h⟩⟩
          · obtain ⟨e1, e2⟩ := bound_ok (P := P) (w := w) q3 q4 (Nat.le_refl _) .sliceB
            exact ⟨l, hh, cap', by simp [Instr.sliceBounds, e3, e1], e2, by omega, e4, .inl ⟨rfl, rfl, h⟩⟩
  | some mv =>
    obtain ⟨um, rfl, rm⟩ := hmx
    simp only at h
    cases h0 : boundA mv (topA cap len) with
    | none => simp [h0] at h
    | some m =>
      obtain ⟨e5, e6⟩ := bound_ok (P := P) (w := w) h0 rm hle (if isSl then BoundsCode.slice3Acap else BoundsCode.slice3Alen)
      cases hi with
      | none => simp [h0] at h
      | some hv =>
        obtain ⟨uh, rfl, rh⟩ := hhi
        simp only [h0] at h
        cases h1 : boundA hv m with
        | none => simp [h1] at h
        | some hh =>
          obtain ⟨e3, e4⟩ := bound_ok (P := P) (w := w) h1 rh (Nat.le_refl _) .slice3B
          simp only [h1] at h
          cases h2 : boundO lo 0 hh with
          | none => simp [h2] at h
          | some l =>
            simp only [h2] at h
            rcases boundO_ok h2 hlo with ⟨rfl, rfl, rfl⟩ | ⟨y', u', rfl, rfl, q3, q4⟩
            · exact ⟨0, hh, m, by simp [Instr.sliceBounds, e5, e3], Nat.zero_le _, e4, by omega, .inr ⟨e6, h⟩⟩
            · obtain ⟨e1, e2⟩ := bound_ok (P := P) (w := w) q3 q4 (Nat.le_refl _) .slice3C
              exact ⟨l, hh, m, by simp [Instr.sliceBounds, e5, e3, e1], e2, e4, by omega, .inr ⟨e6, h⟩⟩

end Am

namespace Am
open Go

variable {P : Program} {B nt : Nat} {ι ι' : Iota} {T : Tmps} {a : Act} {W0 w w' : World} {W0f : BaseF} {H H' : AHeap}

theorem srel_len {s : Option AAddr} {len : Nat} {cap : ACap} {s' : Option Addr} {l' c' : Nat} (h : srel B ι s len cap s' l' c') : l' = len ∧ topA cap len ≤ c' ∧ len ≤ topA cap len ∧ (∀ c, cap = .ex c → c' = c) := by
  cases s with
  | none => obtain ⟨_, rfl, rfl, rfl, rfl⟩ := h; exact ⟨rfl, Nat.le_refl _, Nat.le_refl _, fun c e => by cases e; rfl⟩
  | some s =>
    cases cap with
    | ex c => obtain ⟨_, rfl, rfl, h⟩ := h; exact ⟨rfl, Nat.le_refl _, h, fun c e => by cases e; rfl⟩
    | op e =>
      obtain ⟨b, o⟩ := s
      cases b with
      | base _ => exact h.elim
      | loc i => obtain ⟨L, o', _, _, rfl, h, _⟩ := h; exact ⟨rfl, h, Nat.le_refl _, fun c e => by cases e⟩

/-- the slice that the model makes -/
theorem cut_ok {s : Option AAddr} {len : Nat} {cap : ACap} {s' : Option Addr} {l' c' l h size m' : Nat} {z : AVal} (hs : srel B ι s len cap s' l' c') (hl : l ≤ h) (hm : h ≤ m') (ht : h ≤ topA cap len)
    (hz : (m' = c' ∧ cutSl size s l h cap = some z) ∨ (m' ≤ topA cap len ∧ cutSl size s l h (.ex m') = some z)) :
    vrel B ι z (.slice (if m' = l then s' else s'.map (·.add (l * size))) (h - l) (m' - l)) := by
  obtain ⟨q1, q2, q3, q4⟩ := srel_len hs
  subst q1
  -- an exact result
  have exact_ : ∀ {y : AAddr}, s = some y → m' ≤ topA cap l' → vrel B ι (.slice (bif Nat.beq m' l then some y else some (y.add (l * size))) (h - l) (.ex (m' - l))) (.slice (if m' = l then s' else s'.map (·.add (l * size))) (h - l) (m' - l)) := by
    intro y e hle
    subst e
    refine ⟨_, _, _, rfl, ?_⟩
    rw [Tree.beq_eq]
    by_cases hml : m' = l
    · simp only [hml, decide_true, cond_true, if_true, Nat.sub_self]
      have hh : h - l = 0 := by omega
      rw [hh]
      cases cap with
      | ex c => obtain ⟨⟨z, e, _⟩, _⟩ := hs; exact ⟨⟨z, e, fun hc => absurd rfl hc⟩, rfl, rfl, Nat.le_refl _⟩
      | op e =>
        obtain ⟨b, o⟩ := y
        cases b with
        | base _ => exact hs.elim
        | loc i => obtain ⟨L, o', _, e2, _⟩ := hs; exact ⟨⟨_, e2, fun hc => absurd rfl hc⟩, rfl, rfl, Nat.le_refl _⟩
    · simp only [hml, decide_false, cond_false, if_false]
      cases cap with
      | ex c =>
        obtain ⟨⟨z, e, hr⟩, _, e2, _⟩ := hs
        subst e
        refine ⟨⟨_, rfl, fun hc => arel_add (hr ?_) _⟩, rfl, rfl, by omega⟩
        simp [topA] at hle; omega
      | op e =>
        obtain ⟨b, o⟩ := y
        cases b with
        | base _ => exact hs.elim
        | loc i =>
          obtain ⟨L, o', e1, e2, _, _, e5, _⟩ := hs
          subst e2
          refine ⟨⟨_, rfl, fun hc => ?_⟩, rfl, rfl, by omega⟩
          have hl0 : l' ≠ 0 := by simp [topA] at hle; omega
          have := e5 hl0
          subst this
          exact arel_add (show arel B ι ⟨.loc i, o⟩ ⟨L.blk, L.sh + o, none⟩ from ⟨L, e1, rfl⟩) _
  rcases hz with ⟨rfl, hz⟩ | ⟨hm', hz⟩
  · cases cap with
    | ex c =>
      have hc := q4 c rfl
      subst hc
      cases s with
      | none =>
        obtain ⟨rfl, rfl, _, e, rfl⟩ := hs
        cases e
        simp only [cutSl] at hz
        have h0 : h = 0 := by omega
        have l0 : l = 0 := by omega
        subst h0; subst l0
        simp at hz; subst hz
        exact ⟨none, 0, 0, by simp, rfl, rfl, rfl, rfl, rfl⟩
      | some y =>
        simp only [cutSl, Option.some.injEq] at hz
        subst hz
        exact exact_ rfl (by simp [topA])
    | op e =>
      cases s with
      | none => simp [cutSl] at hz
      | some y =>
        simp only [cutSl] at hz
        cases hb : Nat.beq e size with
        | false => simp [hb] at hz
        | true =>
          rw [Tree.beq_eq] at hb
          have hb : e = size := by simpa using hb
          subst hb
          simp at hz; subst hz
          obtain ⟨b, o⟩ := y
          cases b with
          | base _ => exact hs.elim
          | loc i =>
            obtain ⟨L, o', e1, e2, _, e4, e5, e6⟩ := hs
            subst e2
            refine ⟨_, _, _, rfl, L, if m' = l then o' else o' + l * e, e1, ?_, rfl, by omega, fun hne => ?_, ?_⟩
            · by_cases hml : m' = l
              · simp [hml]
              · simp [hml, add_eq]
            · have hml : m' ≠ l := by omega
              have hl0 : l' ≠ 0 := by simp [topA] at ht; omega
              rw [if_neg hml, e5 hl0]
              simp [Nat.add_assoc]
            · by_cases hml : m' = l
              · left; omega
              · right
                rw [if_neg hml]
                rcases e6 with e6 | e6
                · omega
                · rw [← e6, Nat.add_assoc, ← Nat.add_mul]
                  congr 2; omega
  · cases s with
    | none =>
      obtain ⟨rfl, rfl, _, e, rfl⟩ := hs
      cases e
      simp [topA] at hm' ht
      have m0 : m' = 0 := by omega
      have h0 : h = 0 := by omega
      have l0 : l = 0 := by omega
      subst m0; subst h0; subst l0
      simp [cutSl] at hz; subst hz
      exact ⟨none, 0, 0, by simp, rfl, rfl, rfl, rfl, rfl⟩
    | some y =>
      simp only [cutSl, Option.some.injEq] at hz
      subst hz
      exact exact_ rfl hm'

theorem sliceSl_ok {o : Oper} {t e : TypeId} {n : Nat} {x : Operand} {lo hi mx : Option Operand} {y : Opd} {lo' hi' mx' : Option Opd} (ho : o.op = .slice t x lo hi mx) (ht : P.underlying t = some (.slice e))
    (hn : sizeOf? P e = some n) (hy : cOpd nt x = some y) (hlo : cOpt nt lo = some lo') (hhi : cOpt nt hi = some hi') (hmx : cOpt nt mx = some mx') :
    PureOK P nt o fun T => xSliceSl n (ev T y) (evOpt T lo') (evOpt T hi') (evOpt T mx') := by
  intro B ι T a v w hf hv
  have hx := cOpd_ok hf hy
  simp only [xSliceSl] at hv
  split at hv
  case h_2 => exact absurd hv (by simp)
  rename_i s len cap e1
  rw [e1] at hx
  obtain ⟨s', l', c', ez, rz⟩ := hx
  obtain ⟨q1, q2, q3, q4⟩ := srel_len rz
  obtain ⟨l, h', m', b1, b2, b3, b4, b5⟩ := bounds_ok (P := P) (w := w) true hv (cOpt_ok hf hlo) (cOpt_ok hf hhi) (cOpt_ok hf hmx) q2 q3
  rw [← q1] at b1
  refine ⟨_, ?_, cut_ok rz b2 b3 b4 (b5.imp (fun q => q.2) id)⟩
  have : (Instr.sliceAt t (.slice s' l' c') (lo.map a.eval) (hi.map a.eval) (mx.map a.eval)).run P w = .ok (.slice (if m' = l then s' else s'.map (·.add (l * n))) (h' - l) (m' - l)) w := by
    unfold Instr.sliceAt
    simp only [Sem.run_bind, run_und ht, Result.andThen_ok]
    unfold Instr.slice
    simp only [Sem.run_bind, run_und ht, Result.andThen_ok, b1, run_size hn, Sem.run_pure]
  simp [execOp, ho, ez, this]

theorem sliceArr_ok {o : Oper} {t e : TypeId} {k n : Nat} {x : Operand} {lo hi mx : Option Operand} {y : Opd} {lo' hi' mx' : Option Opd} (ho : o.op = .slice t x lo hi mx) (ht : P.underlying t = some (.array k e))
    (hn : sizeOf? P e = some n) (hy : cOpd nt x = some y) (hlo : cOpt nt lo = some lo') (hhi : cOpt nt hi = some hi') (hmx : cOpt nt mx = some mx') :
    PureOK P nt o fun T => xSliceArr k n (ev T y) (evOpt T lo') (evOpt T hi') (evOpt T mx') := by
  intro B ι T a v w hf hv
  have hx := cOpd_ok hf hy
  simp only [xSliceArr] at hv
  split at hv
  case h_2 => exact absurd hv (by simp)
  rename_i s e1
  rw [e1] at hx
  obtain ⟨z, ez, rz⟩ := vrel_ptr hx
  obtain ⟨l, h', m', b1, b2, b3, b4, b5⟩ := bounds_ok (P := P) (w := w) (cap' := k) false hv (cOpt_ok hf hlo) (cOpt_ok hf hhi) (cOpt_ok hf hmx) (by simp [topA]) (by simp [topA])
  have rs : srel B ι (some s) k (.ex k) (some z) k k := ⟨⟨z, rfl, fun _ => rz⟩, rfl, rfl, Nat.le_refl _⟩
  have := cut_ok rs b2 b3 b4 (b5.imp (fun q => q.2) id)
  refine ⟨_, ?_, this⟩
  have : (Instr.sliceAt t (.pointer (some z)) (lo.map a.eval) (hi.map a.eval) (mx.map a.eval)).run P w = .ok (.slice (if m' = l then some z else (some z).map (·.add (l * n))) (h' - l) (m' - l)) w := by
    unfold Instr.sliceAt
    simp only [Sem.run_bind, run_und ht, Result.andThen_ok, Instr.sureAddr, Sem.run_pure, b1, run_size hn]
    by_cases hml : m' = l <;> simp [hml]
  simp [execOp, ho, ez, this]

theorem sliceStr_ok {o : Oper} {t : TypeId} {x : Operand} {lo hi : Option Operand} {y : Opd} {lo' hi' : Option Opd} (ho : o.op = .slice t x lo hi none) (ht : P.underlying t = some .string)
    (hy : cOpd nt x = some y) (hlo : cOpt nt lo = some lo') (hhi : cOpt nt hi = some hi') :
    PureOK P nt o fun T => xSliceStr (ev T y) (evOpt T lo') (evOpt T hi') := by
  intro B ι T a v w hf hv
  have hx := cOpd_ok hf hy
  simp only [xSliceStr] at hv
  split at hv
  case h_2 => exact absurd hv (by simp)
  rename_i s e1
  rw [e1] at hx
  simp only [vrel] at hx
  cases h1 : boundO (evOpt T hi') s.length s.length with
  | none => simp [h1] at hv
  | some h =>
    simp only [h1] at hv
    cases h2 : boundO (evOpt T lo') 0 h with
    | none => simp [h2] at hv
    | some l =>
      simp [h2] at hv; subst hv
      have hsa : sliceA 1 none s.length (.ex s.length) (evOpt T lo') (evOpt T hi') none = cutSl 1 none l h (.ex s.length) := by
        simp [sliceA, topA, h1, h2]
      obtain ⟨l2, h', m', b1, b2, b3, b4, b5⟩ := bounds_ok (P := P) (w := w) (cap' := s.length) (mx' := none) false hsa (cOpt_ok hf hlo) (cOpt_ok hf hhi) rfl (by simp [topA]) (by simp [topA])
      have hlh : l2 = l ∧ h' = h := by
        -- the same bounds
        have r1 := boundO_ok h1 (cOpt_ok hf hhi)
        have r2 := boundO_ok h2 (cOpt_ok hf hlo)
        have : (Instr.sliceBounds false s.length s.length (lo.map a.eval) (hi.map a.eval) none).run P w = .ok (l, h, s.length) w := by
          rcases r1 with ⟨p1, p2, p3⟩ | ⟨p, u, p1, p2, p3, p4⟩ <;> rcases r2 with ⟨r1, r2, r3⟩ | ⟨r, z, r1, r2, r3, r4⟩
          · rw [p2, r2, p3, r3]; simp [Instr.sliceBounds]
          · rw [p2, r2]
            obtain ⟨c1, _⟩ := bound_ok (P := P) (w := w) r3 r4 (Nat.le_refl _) .sliceB
            subst p3
            simp [Instr.sliceBounds, c1]
          · rw [p2, r2]
            obtain ⟨c1, _⟩ := bound_ok (P := P) (w := w) p3 p4 (Nat.le_refl _) .sliceAlen
            simp [Instr.sliceBounds, c1, r3]
          · rw [p2, r2]
            obtain ⟨c1, _⟩ := bound_ok (P := P) (w := w) p3 p4 (Nat.le_refl _) .sliceAlen
            obtain ⟨c2, _⟩ := bound_ok (P := P) (w := w) r3 r4 (Nat.le_refl _) .sliceB
            simp [Instr.sliceBounds, c1, c2]
        rw [b1] at this
        simp at this
        exact ⟨this.1, this.2.1⟩
      obtain ⟨rfl, rfl⟩ := hlh
      refine ⟨.string ((⟨s.toArray⟩ : ByteArray).extract l2 h'), ?_, ?_⟩
      · have : (Instr.sliceAt t (.string ⟨s.toArray⟩) (lo.map a.eval) (hi.map a.eval) none).run P w = .ok (.string ((⟨s.toArray⟩ : ByteArray).extract l2 h')) w := by
          unfold Instr.sliceAt
          simp only [Sem.run_bind, run_und ht, Result.andThen_ok]
          unfold Instr.slice
          have hsz : (⟨s.toArray⟩ : ByteArray).size = s.length := by simp [ByteArray.size]
          simp only [Sem.run_bind, run_und ht, Result.andThen_ok, hsz, Option.isSome_none, Bool.false_eq_true, if_false, b1, Sem.run_pure]
        simp [execOp, ho, hx, this]
      · simp only [vrel]
        congr 1
        apply ByteArray.ext
        simp [ByteArray.data_extract, List.extract_eq_take_drop]

/-! ## others -/
theorem assert_ok {o : Oper} {x : Operand} {xt t : TypeId} {ok : Bool} {y : Opd} {z : AVal} {d : TypeDesc} (ho : o.op = .typeAssert x xt t ok) (ht : P.underlying t = some d) (hd : ∀ ms, d ≠ .interface ms) (hz : zeroA P t = some z)
    (hy : cOpd nt x = some y) : PureOK P nt o fun T => xAssert t z ok (ev T y) := by
  intro B ι T a v w hf hv
  have hx := cOpd_ok hf hy
  obtain ⟨zv, h1, h2, _⟩ := run_zero (w := w) (B := B) (ι := ι) hz
  simp only [xAssert] at hv
  split at hv
  · rename_i e
    rw [e] at hx
    simp only [vrel] at hx
    cases ok with
    | false => simp at hv
    | true =>
      simp at hv; subst hv
      refine ⟨.tuple #[zv, .bool false], ?_, ⟨_, rfl, lrel_cons.2 ⟨_, _, rfl, h2, lrel_cons.2 ⟨_, _, rfl, rfl, lrel_nil.2 rfl⟩⟩⟩⟩
      have : (Instr.typeAssert .nilIface xt t true).run P w = .ok (.tuple #[zv, .bool false]) w := by
        unfold Instr.typeAssert
        rw [Sem.run_bind, run_und ht]
        simp only [Result.andThen_ok]
        cases d <;> first | exact absurd rfl (hd _) | simp [h1]
      simp [execOp, ho, hx, this]
  · rename_i t' u e
    rw [e] at hx
    obtain ⟨u', eu, ru⟩ := hx
    rw [Tree.beq_eq] at hv
    by_cases htt : t' = t
    · subst htt
      simp at hv; subst hv
      have : (Instr.typeAssert (.iface t' u') xt t' ok).run P w = .ok (if ok then .tuple #[u', .bool true] else u') w := by
        unfold Instr.typeAssert
        rw [Sem.run_bind, run_und ht]
        simp only [Result.andThen_ok]
        cases d <;> first | exact absurd rfl (hd _) | simp
      refine ⟨if ok then .tuple #[u', .bool true] else u', by simp [execOp, ho, eu, this], ?_⟩
      cases ok with
      | true => exact ⟨_, rfl, lrel_cons.2 ⟨_, _, rfl, ru, lrel_cons.2 ⟨_, _, rfl, rfl, lrel_nil.2 rfl⟩⟩⟩
      | false => exact ru
    · simp [htt] at hv
      cases ok with
      | false => simp at hv
      | true =>
        simp at hv; subst hv
        refine ⟨.tuple #[zv, .bool false], ?_, ⟨_, rfl, lrel_cons.2 ⟨_, _, rfl, h2, lrel_cons.2 ⟨_, _, rfl, rfl, lrel_nil.2 rfl⟩⟩⟩⟩
        have : (Instr.typeAssert (.iface t' u') xt t true).run P w = .ok (.tuple #[zv, .bool false]) w := by
          unfold Instr.typeAssert
          rw [Sem.run_bind, run_und ht]
          simp only [Result.andThen_ok]
          cases d <;> first | exact absurd rfl (hd _) | simp [htt, h1]
        simp [execOp, ho, eu, this]
  · exact absurd hv (by simp)

/-- a built-in that is called -/
theorem call_builtin {o : Oper} {b : Builtin} {args : Array Operand} {at_ : Array TypeId} (ho : o.op = .call { callee := .builtin b, args, argTypes := at_ }) {r : Result Next}
    (h : (builtin b at_ o.type (args.map fun | .const _ => true | _ => false) (args.map a.eval)).run P w = r) : (execOp a.eval o).run P w = r := by
  simp [execOp, ho, resolve, invoke]
  exact h

theorem lenS_ok {o : Oper} {t : TypeId} {x : Operand} {y : Opd} (ho : o.op = .call { callee := .builtin .len, args := #[x], argTypes := #[t] }) (ht : P.underlying t = some .string)
    (hy : cOpd nt x = some y) : PureOK P nt o fun T => xLenS (ev T y) := by
  intro B ι T a v w hf hv
  have hx := cOpd_ok hf hy
  simp only [xLenS] at hv
  split at hv
  · rename_i s e
    rw [e] at hx
    simp only [vrel] at hx
    simp at hv; subst hv
    refine ⟨.int .i64 s.length, call_builtin ho ?_, rfl⟩
    simp only [builtin, Builtin.len_, List.getElem?_toArray, List.getElem?_cons_zero, List.map_toArray, List.map_cons, List.map_nil, Sem.run_bind, run_und ht, Result.andThen_ok, hx]
    simp [goInt, ByteArray.size]
  · exact absurd hv (by simp)

theorem lenSl_ok {o : Oper} {t q : TypeId} {x : Operand} {y : Opd} (ho : o.op = .call { callee := .builtin .len, args := #[x], argTypes := #[t] }) (ht : P.underlying t = some (.slice q))
    (hy : cOpd nt x = some y) : PureOK P nt o fun T => xLenSl (ev T y) := by
  intro B ι T a v w hf hv
  have hx := cOpd_ok hf hy
  simp only [xLenSl] at hv
  split at hv
  · rename_i s n c e
    rw [e] at hx
    obtain ⟨s', l', c', ez, rz⟩ := hx
    obtain ⟨q1, _⟩ := srel_len rz
    simp at hv; subst hv
    refine ⟨.int .i64 n, call_builtin ho ?_, rfl⟩
    simp only [builtin, Builtin.len_, List.getElem?_toArray, List.getElem?_cons_zero, List.map_toArray, List.map_cons, List.map_nil, Sem.run_bind, run_und ht, Result.andThen_ok, ez]
    simp [goInt, q1]
  · exact absurd hv (by simp)

theorem lenA_ok {o : Oper} {t q : TypeId} {n : Nat} {x : Operand} (ho : o.op = .call { callee := .builtin .len, args := #[x], argTypes := #[t] }) (ht : P.underlying t = some (.array n q)) :
    PureOK P nt o fun _ => some (.int .i64 (.ofNat n)) := by
  intro B ι T a v w hf hv
  simp at hv; subst hv
  refine ⟨.int .i64 n, call_builtin ho ?_, rfl⟩
  simp only [builtin, Builtin.len_, List.getElem?_toArray, List.getElem?_cons_zero, List.map_toArray, List.map_cons, List.map_nil, Sem.run_bind, run_und ht, Result.andThen_ok]
  simp [goInt]

theorem lenP_ok {o : Oper} {t p q : TypeId} {n : Nat} {x : Operand} (ho : o.op = .call { callee := .builtin .len, args := #[x], argTypes := #[t] }) (ht : P.underlying t = some (.pointer p)) (hp : P.underlying p = some (.array n q)) :
    PureOK P nt o fun _ => some (.int .i64 (.ofNat n)) := by
  intro B ι T a v w hf hv
  simp at hv; subst hv
  refine ⟨.int .i64 n, call_builtin ho ?_, rfl⟩
  simp only [builtin, Builtin.len_, List.getElem?_toArray, List.getElem?_cons_zero, List.map_toArray, List.map_cons, List.map_nil, Sem.run_bind, run_und ht, run_und hp, Result.andThen_ok]
  simp [goInt]

/-! least and greatest -/
theorem foldMin_ok (mx : Bool) (k : IntKind) : ∀ (l : List AVal) (m r : Int) (vs : List Value), foldMin mx k m l = some r → lrel B ι l vs →
    (vs.foldlM (if mx then Builtin.max2 else Builtin.min2) (.int k m)).run P w = .ok (.int k r) w
  | [], m, r, vs, h, hr => by
    rw [lrel_nil] at hr; subst hr
    simp [foldMin] at h; subst h; simp
  | x :: l, m, r, vs, h, hr => by
    obtain ⟨v, vs, rfl, h1, h2⟩ := lrel_cons.1 hr
    cases x <;> simp [foldMin] at h
    rename_i k' b
    cases hk : IntKind.beq k k' with
    | false => simp [hk] at h
    | true =>
      simp [hk] at h
      have := kbeq_eq hk; subst this
      have := vrel_int h1; subst this
      have ih := foldMin_ok mx k l _ r vs h h2
      simp only [List.foldlM_cons, Sem.run_bind]
      cases mx with
      | true =>
        simp only [if_true, Builtin.max2, Sem.run_pure, Result.andThen_ok]
        simp only [if_true, cond_true] at ih
        rw [iLt_iff] at ih
        by_cases hlt : m < b
        · simp only [hlt, decide_true, cond_true] at ih; rw [if_pos hlt]; exact ih
        · simp only [hlt, decide_false, cond_false] at ih; rw [if_neg hlt]; exact ih
      | false =>
        simp only [Bool.false_eq_true, if_false, Builtin.min2, Sem.run_pure, Result.andThen_ok]
        simp only [Bool.false_eq_true, if_false, cond_false] at ih
        rw [iLt_iff] at ih
        by_cases hlt : b < m
        · simp only [hlt, decide_true, cond_true] at ih; rw [if_pos hlt]; exact ih
        · simp only [hlt, decide_false, cond_false] at ih; rw [if_neg hlt]; exact ih

theorem minmax_ok {o : Oper} {mx : Bool} {args : Array Operand} {at_ : Array TypeId} {ys : List Opd} (ho : o.op = .call { callee := .builtin (if mx then .max else .min), args, argTypes := at_ })
    (hy : mapOpt (cOpd nt) args.toList = some ys) : PureOK P nt o fun T => minA mx (evs T ys) := by
  intro B ι T a v w hf hv
  have hx := cOpds_ok hf hy
  simp only [minA] at hv
  split at hv
  case h_2 => exact absurd hv (by simp)
  rename_i k m l e
  rw [e] at hx
  obtain ⟨u, us, e1, r1, r2⟩ := lrel_cons.1 hx
  have := vrel_int r1; subst this
  cases hfm : foldMin mx k m l with
  | none => simp [hfm] at hv
  | some r =>
    simp [hfm] at hv; subst hv
    have hfold := foldMin_ok (P := P) (w := w) mx k l m r us hfm r2
    refine ⟨.int k r, call_builtin ho ?_, rfl⟩
    have e2 : (args.map a.eval).toList = .int k m :: us := by simpa using e1
    cases mx with
    | true =>
      simp only [if_true, builtin, Builtin.max_, e2, Sem.run_bind]
      simp only [if_true] at hfold
      simp [hfold]
    | false =>
      simp only [Bool.false_eq_true, if_false, builtin, Builtin.min_, e2, Sem.run_bind]
      simp only [Bool.false_eq_true, if_false] at hfold
      simp [hfold]

/-! checks against nil -/
theorem methodRow_info {t : TypeId} {name : String} {f : FuncId} {b : Bool} (h : methodRow P t name = some (f, b)) :
    ∃ i m, P.info? t = some i ∧ i.methods.find? (·.name == name) = some m ∧ m.path = #[] ∧ m.func = some (f, b) := by
  unfold methodRow at h
  cases e : P.info? t with
  | none => simp [e] at h
  | some i =>
    simp only [e] at h
    cases hm : i.methods.toList.find? (·.name == name) with
    | none => simp [hm] at h
    | some m =>
      simp only [hm] at h
      cases hp : m.path.isEmpty with
      | false => simp [hp] at h
      | true =>
        simp [hp] at h
        refine ⟨i, m, rfl, ?_, by simpa using hp, h⟩
        rw [← Array.find?_toList]; exact hm

theorem lookT_mem {α : Type} {t : Nat} {x : α} : ∀ {l : List (Nat × α)}, lookT t l = some x → (t, x) ∈ l
  | [], h => by simp [lookT] at h
  | (t', y) :: l, h => by
    simp only [lookT, Tree.beq_eq] at h
    by_cases e : t = t'
    · subst e; simp at h; subst h; simp
    · simp [e] at h; exact List.mem_cons_of_mem _ (lookT_mem h)

theorem table_mem {name : String} {t : TypeId} {f : FuncId} : ∀ {ts : List TypeId}, (t, f) ∈ methodTableFrom P name ts → methodRow P t name = some (f, false) ∧ ∃ fs, P.underlying t = some (.struct fs)
  | [], h => by simp [methodTableFrom] at h
  | t' :: ts, h => by
    unfold methodTableFrom at h
    split at h
    · rename_i f' fs h1 h2
      rcases List.mem_cons.1 h with e | h
      · simp at e
        obtain ⟨rfl, rfl⟩ := e
        exact ⟨h1, fs, h2⟩
      · exact table_mem h
    · exact table_mem h

theorem methodsIn_look {name : String} {tbl : List (TypeId × FuncId)} : ∀ {os : List Oper}, lookS name (methodsIn P os) = some tbl → tbl = methodTable P name
  | [], h => by simp [methodsIn, lookS] at h
  | o :: os, h => by
    unfold methodsIn at h
    split at h
    · rename_i nm _ _ _
      simp only [lookS] at h
      by_cases e : nm = name
      · subst e; simp at h; exact h.symm
      · simp [e] at h; exact methodsIn_look h
    · exact methodsIn_look h

theorem nilCheck_ok {o : Oper} {os : List Oper} {x : Operand} {y : Opd} (ho : o.op = .nilCheck x) (hy : cOpd nt x = some y) : PureOK P nt o fun T => xNilCheck (methodsIn P os) (ev T y) := by
  intro B ι T a v w hf hv
  have hx := cOpd_ok hf hy
  simp only [xNilCheck] at hv
  split at hv
  · rename_i s e
    rw [e] at hx
    obtain ⟨z, ez, rz⟩ := vrel_ptr hx
    simp at hv; subst hv
    exact ⟨.pointer (some z), by simp [execOp, ho, ez], ⟨z, rfl, rz⟩⟩
  · rename_i f p q e
    rw [e] at hx
    simp at hv; subst hv
    obtain ⟨f', c', ez, r⟩ := hx
    exact ⟨.func (.func f) f' c', by simp [execOp, ho, ez], ⟨f', c', rfl, r⟩⟩
  · rename_i name t cs e
    rw [e] at hx
    split at hv
    case h_2 => exact absurd hv (by simp)
    rename_i tbl ht
    split at hv
    case h_2 => exact absurd hv (by simp)
    rename_i f hf'
    simp at hv; subst hv
    have := methodsIn_look ht
    subst this
    obtain ⟨h1, fs, h2⟩ := table_mem (lookT_mem hf')
    obtain ⟨i, m, m1, m2, m3, m4⟩ := methodRow_info h1
    obtain ⟨fi, ca, ez, r1, r2⟩ := hx
    obtain ⟨u, us, e1, ru, rus⟩ := lrel_cons.1 r1
    rw [lrel_nil] at rus r2
    obtain ⟨u', eu, ru'⟩ := ru
    subst rus
    have hfi : fi = #[.iface t u'] := by
      apply Array.ext'; simp [e1, eu]
    have hca : ca = #[] := by apply Array.ext'; simp [r2]
    subst hfi; subst hca
    refine ⟨.func (.method name) #[.iface t u'] #[], ?_, ⟨_, _, rfl, lrel_cons.2 ⟨_, [], rfl, ⟨u', rfl, ru'⟩, lrel_nil.2 rfl⟩, lrel_nil.2 rfl⟩⟩
    have hna : (nilAhead (P.types.size + Made.depth) t u' name).run P w = .ok (some false) w := by
      have hd : P.types.size + Made.depth = (P.types.size + (Made.depth - 1)) + 1 := by
        have : Made.depth ≠ 0 := by decide
        omega
      rw [hd]
      unfold nilAhead
      simp only [Sem.run_bind, run_info m1, Result.andThen_ok, m2, m3, followBlind, Sem.run_pure, m4, run_und h2]
    simp [execOp, ho, ez, hna]
  · rename_i t u e
    rw [e] at hx
    obtain ⟨u', ez, ru⟩ := hx
    simp at hv; subst hv
    exact ⟨.iface t u', by simp [execOp, ho, ez], ⟨u', rfl, ru⟩⟩
  · exact absurd hv (by simp)

end Am

namespace Am
open Go

variable {P : Program} {B nt : Nat} {ι ι' : Iota} {T : Tmps} {a : Act} {W0 w w' : World} {W0f : BaseF} {H H' : AHeap}

theorem load1_ok {o : Oper} {t : TypeId} {x : Operand} {y : Opd} (ho : o.op = .load t x) (hs : shapeOf P t = some none) (hy : cOpd nt x = some y) : ReadOK P nt o fun W0 T H => xLoad1 W0 (ev T y) H := by
  intro B W0 W0f H ι T a v w hf hw hb hv
  have hx := cOpd_ok hf hy
  simp only [xLoad1] at hv
  split at hv
  case h_2 => exact absurd hv (by simp)
  rename_i s e
  rw [e] at hx
  obtain ⟨z, ez, rz⟩ := vrel_ptr hx
  obtain ⟨v', h1, h2⟩ := read1_ok hw hb rz hv
  refine ⟨v', ?_, h2⟩
  simp [execOp, ho, ez, Instr.loadAt, Instr.sureAddr, loadVar, (run_isAgg hs).1, h1]

theorem loadN_ok {o : Oper} {t : TypeId} {n : Nat} {x : Operand} {y : Opd} (ho : o.op = .load t x) (hs : shapeOf P t = some (some n)) (hy : cOpd nt x = some y) : ReadOK P nt o fun W0 T H => xLoadN W0 n (ev T y) H := by
  intro B W0 W0f H ι T a v w hf hw hb hv
  have hx := cOpd_ok hf hy
  simp only [xLoadN] at hv
  split at hv
  case h_2 => exact absurd hv (by simp)
  rename_i s e
  rw [e] at hx
  obtain ⟨z, ez, rz⟩ := vrel_ptr hx
  cases hr : readN W0f H s n with
  | none => simp [hr, aggO] at hv
  | some l =>
    simp [hr, aggO] at hv; subst hv
    obtain ⟨vs, h1, h2⟩ := loadCells_ok (P := P) hw hb rz hr
    obtain ⟨g1, g2⟩ := run_isAgg (w := w) hs
    have g3 := run_size (P := P) (w := w) (g2 n rfl)
    refine ⟨.agg vs.toArray, ?_, ⟨_, rfl, by simpa using h1⟩⟩
    simp [execOp, ho, ez, Instr.loadAt, Instr.sureAddr, loadVar, g1, g3, h2 w rfl]

/-! ## keys -/
theorem keyEq_true {x y : AVal} (h : keyEq x y = some true) : x = y := by
  cases x <;> cases y <;> simp [keyEq] at h
  · rename_i k p k' q
    cases hk : IntKind.beq k k' <;> simp [hk, iEq_iff] at h
    rw [kbeq_eq hk, h]
  · rw [bytesEq_iff] at h; simp at h; rw [h]

theorem keyEq_trans {x y z : AVal} {r s : Bool} (h : keyEq x y = some r) (h' : keyEq x z = some s) : ∃ t, keyEq y z = some t := by
  cases x <;> cases y <;> simp [keyEq] at h <;> cases z <;> simp [keyEq] at h'
  · rename_i k p k' q k2 u
    cases hk : IntKind.beq k k' <;> simp [hk] at h
    cases hk2 : IntKind.beq k k2 <;> simp [hk2] at h'
    have := kbeq_eq hk; subst this
    have := kbeq_eq hk2; subst this
    exact ⟨_, by simp [keyEq, (kbeq_iff k k).2 rfl]; rfl⟩
  · exact ⟨_, by simp [keyEq]; rfl⟩

theorem keyEq_comm (x y : AVal) : keyEq x y = keyEq y x := by
  cases x <;> cases y <;> simp [keyEq]
  · rename_i k p k' q
    cases hk : IntKind.beq k k'
    · have : IntKind.beq k' k = false := by
        cases h : IntKind.beq k' k with
        | false => rfl
        | true => have := kbeq_eq h; subst this; rw [(kbeq_iff k' k').2 rfl] at hk; simp at hk
      simp [this]
    · have := kbeq_eq hk; subst this
      simp only [hk, iEq_iff, cond_true]
      congr 1
      rw [Bool.eq_iff_iff]
      simp only [beq_iff_eq]
      exact eq_comm
  · rw [bytesEq_iff, bytesEq_iff]; simp [eq_comm]

theorem keyIs_self {ki : Bool} {x : AVal} (h : keyIs ki x = true) : keyEq x x = some true := by
  cases ki <;> cases x <;> simp [keyIs] at h
  · simp [keyEq, bytesEq_iff]
  · rename_i k n; simp [keyEq, (kbeq_iff k k).2 rfl, iEq_iff]

/-- a key and a key of the map's -/
theorem sameNow_ok {kt : TypeId} {ki : Bool} {d : TypeDesc} (hk : keyT P kt = some ki) (hd : P.underlying kt = some d) {x y : AVal} {u v : Value} {r : Bool} (hi : keyIs ki x = true) (h : keyEq x y = some r)
    (hu : vrel B ι x u) (hv : vrel B ι y v) : Instr.sameNow d u v = some r := by
  unfold keyT at hk
  rw [hd] at hk
  cases d <;> simp at hk <;> subst hk
  · cases x <;> simp [keyIs] at hi
    cases y <;> simp [keyEq] at h
    rename_i k p k' q
    cases hkb : IntKind.beq k k' <;> simp [hkb, iEq_iff] at h
    have := kbeq_eq hkb; subst this
    have := vrel_int hu; subst this
    have := vrel_int hv; subst this
    simp [Instr.sameNow, h]
  · cases x <;> simp [keyIs] at hi
    cases y <;> simp [keyEq] at h
    simp only [vrel] at hu hv; subst hu; subst hv
    simp [Instr.sameNow, ← h, bytesEq_iff, beq_toListBytes, lbeq]

/-- what the model finds under a key -/
theorem findNow_ok {kt : TypeId} {ki : Bool} {d : TypeDesc} (hk : keyT P kt = some ki) (hd : P.underlying kt = some d) {x : AVal} {u : Value} (hi : keyIs ki x = true) (hu : vrel B ι x u) :
    ∀ (es : List (AVal × AVal)) (l : List MapEntry) (i : Nat), erel B ι es l → (∀ e ∈ es, ∃ r, keyEq x e.1 = some r) →
      (Instr.findNow d u l i = some none ∧ ∀ e ∈ es, keyEq x e.1 = some false) ∨
      ∃ m1 v m2 v', Instr.findNow d u l i = some (some (i + m1.length, v')) ∧ es = m1 ++ (x, v) :: m2 ∧ vrel B ι v v' ∧ ∀ e ∈ m1, keyEq x e.1 = some false
  | [], _, i, he, _ => .inl ⟨by have he : _ = _ := he; subst he; rfl, by simp⟩
  | (k, v) :: es, _, i, he, ha => by
    obtain ⟨e, r, rfl, h1, h2, h3⟩ := he
    obtain ⟨b, hb⟩ := ha (k, v) (by simp)
    have hs := sameNow_ok hk hd hi hb hu h1
    cases b with
    | true =>
      have := keyEq_true hb; simp at this; subst this
      exact .inr ⟨[], v, es, e.val, by simp [Instr.findNow, hs], rfl, h2, by simp⟩
    | false =>
      rcases findNow_ok hk hd hi hu es r (i + 1) h3 (fun e he => ha e (by simp [he])) with ⟨q1, q2⟩ | ⟨m1, v0, m2, v', q1, q2, q3, q4⟩
      · exact .inl ⟨by simp [Instr.findNow, hs, q1], fun e he => by
          rcases List.mem_cons.1 he with rfl | he
          · exact hb
          · exact q2 e he⟩
      · refine .inr ⟨(k, v) :: m1, v0, m2, v', ?_, by simp [q2], q3, fun e he => ?_⟩
        · simp only [Instr.findNow, hs, q1, List.length_cons]
          congr 3; omega
        · rcases List.mem_cons.1 he with rfl | he
          · exact hb
          · exact q4 e he

theorem findA_ok {x : AVal} : ∀ (es : List (AVal × AVal)) (r : Option AVal), findA x es = some r → (r = none ∧ ∀ e ∈ es, keyEq x e.1 = some false) ∨ ∃ m1 v m2, r = some v ∧ es = m1 ++ (x, v) :: m2 ∧ ∀ e ∈ m1, keyEq x e.1 = some false
  | [], r, h => by simp [findA] at h; subst h; exact .inl ⟨rfl, by simp⟩
  | (k, v) :: es, r, h => by
    simp only [findA] at h
    cases hb : keyEq x k with
    | none => simp [hb] at h
    | some b =>
      cases b with
      | true =>
        simp [hb] at h; subst h
        have := keyEq_true hb; subst this
        exact .inr ⟨[], v, es, rfl, rfl, by simp⟩
      | false =>
        simp [hb] at h
        rcases findA_ok es r h with ⟨q1, q2⟩ | ⟨m1, v0, m2, q1, q2, q3⟩
        · exact .inl ⟨q1, fun e he => by
            rcases List.mem_cons.1 he with rfl | he
            · exact hb
            · exact q2 e he⟩
        · exact .inr ⟨(k, v) :: m1, v0, m2, q1, by simp [q2], fun e he => by
            rcases List.mem_cons.1 he with rfl | he
            · exact hb
            · exact q3 e he⟩

/-- a key that can be held against one of a map's can be against all -/
theorem keys_all {x : AVal} {es es' : List (AVal × AVal)} (hk : keysOK es) (hp : es'.Perm es) {r : Option AVal} (h : findA x es = some r) : ∀ e ∈ es', ∃ r, keyEq x e.1 = some r := by
  intro e he
  have he : e ∈ es := hp.mem_iff.1 he
  rcases findA_ok es r h with ⟨_, q⟩ | ⟨m1, v, m2, _, rfl, q⟩
  · exact ⟨false, q e he⟩
  · by_cases hx : e = (x, v)
    · subst hx
      obtain ⟨ki, hki⟩ := hk.1 (x, v) he
      exact ⟨true, keyIs_self hki⟩
    · -- e stands beside (x, v)
      have h2 := hk.2
      rw [List.pairwise_append] at h2
      rcases List.mem_append.1 he with he | he
      · exact ⟨false, q e he⟩
      · rcases List.mem_cons.1 he with he | he
        · exact absurd he hx
        · have := (List.pairwise_cons.1 h2.2.1).1 e he
          exact ⟨false, this⟩

/-- the only one under a key -/
theorem key_unique {x v v' : AVal} {m1 m2 n1 n2 : List (AVal × AVal)} (hk : keysOK (m1 ++ (x, v) :: m2)) (hp : (n1 ++ (x, v') :: n2).Perm (m1 ++ (x, v) :: m2)) : v = v' ∧ (n1 ++ n2).Perm (m1 ++ m2) := by
  have hxk : ∃ ki, keyIs ki x = true := hk.1 (x, v) (by simp)
  obtain ⟨ki, hki⟩ := hxk
  have hs := keyIs_self hki
  have hmem : (x, v') ∈ m1 ++ (x, v) :: m2 := hp.mem_iff.1 (by simp)
  have h2 := hk.2
  rw [List.pairwise_append] at h2
  have hv : v = v' := by
    rcases List.mem_append.1 hmem with hm | hm
    · have := h2.2.2 (x, v') hm (x, v) (by simp)
      simp at this; rw [hs] at this; simp at this
    · rcases List.mem_cons.1 hm with hm | hm
      · simp at hm; exact hm.symm
      · have := (List.pairwise_cons.1 h2.2.1).1 (x, v') hm
        simp at this; rw [hs] at this; simp at this
  subst hv
  refine ⟨rfl, ?_⟩
  have h3 : ((x, v) :: (n1 ++ n2)).Perm ((x, v) :: (m1 ++ m2)) := (List.perm_middle.symm.trans hp).trans List.perm_middle
  exact h3.cons_inv

theorem checkKey_ok {kt : TypeId} {ki : Bool} (hk : keyT P kt = some ki) (b : Bool) {x : AVal} {u : Value} (hi : keyIs ki x = true) (hu : vrel B ι x u) : (Instr.checkKey b 10000 kt u).run P w = .ok () w := by
  unfold keyT at hk
  cases hd : P.underlying kt with
  | none => simp [hd] at hk
  | some d =>
    rw [show (10000 : Nat) = 9999 + 1 from rfl]
    unfold Instr.checkKey
    rw [Sem.run_bind, run_und hd]
    cases d <;> simp [hd] at hk <;> subst hk <;> cases x <;> simp [keyIs] at hi <;> simp only [vrel] at hu <;> subst hu <;> rfl

theorem findKey_ok {kt : TypeId} {ki : Bool} (hk : keyT P kt = some ki) {x : AVal} {u : Value} (hi : keyIs ki x = true) (hu : vrel B ι x u) {es : List (AVal × AVal)} {l : List MapEntry} (he : erel B ι es l)
    (ha : ∀ e ∈ es, ∃ r, keyEq x e.1 = some r) :
    ((Instr.findKey kt u l).run P w = .ok none w ∧ ∀ e ∈ es, keyEq x e.1 = some false) ∨
      ∃ m1 v m2 v', (Instr.findKey kt u l).run P w = .ok (some (m1.length, v')) w ∧ es = m1 ++ (x, v) :: m2 ∧ vrel B ι v v' ∧ ∀ e ∈ m1, keyEq x e.1 = some false := by
  cases hd : P.underlying kt with
  | none => simp [keyT, hd] at hk
  | some d =>
    rcases findNow_ok hk hd hi hu es l 0 he ha with ⟨q1, q2⟩ | ⟨m1, v, m2, v', q1, q2, q3⟩
    · exact .inl ⟨by simp [Instr.findKey, run_und hd, q1], q2⟩
    · exact .inr ⟨m1, v, m2, v', by simp [Instr.findKey, run_und hd, q1], q2, q3⟩

/-- a map's object -/
theorem map_obj (hw : WRel B W0 H ι w) {r : Nat} {L : Loc} {es : List (AVal × AVal)} (hr : ι r = some L) (hg : H.get r = some (.map es)) :
    ∃ ents clock es', w.heap[L.blk]? = some (.map ents clock) ∧ es'.Perm es ∧ erel B ι es' ents.toList ∧ keysOK es := by
  obtain ⟨ents, clock, es', h1, h2, h3, h4, _⟩ := hw.obj r L _ hr hg
  exact ⟨ents, clock, es', h1, h2, h3, h4⟩

theorem map_obj2 (hw : WRel B W0 H ι w) {r : Nat} {L : Loc} {es : List (AVal × AVal)} (hr : ι r = some L) (hg : H.get r = some (.map es)) :
    ∃ ents clock es', w.heap[L.blk]? = some (.map ents clock) ∧ es'.Perm es ∧ erel B ι es' ents.toList ∧ keysOK es ∧ bornOK (ents.toList.map (·.born)) clock := hw.obj r L _ hr hg

theorem run_getObj {r : Nat} {o : Obj} (h : w.heap[r]? = some o) (hc : ∀ c t f, o ≠ .cells c t f) : (getObj r).run P w = .ok o w := by
  simp only [getObj, Sem.run, h]

theorem lookup_run {t kt e : TypeId} {ok : Bool} {u k zv : Value} {ents : Array MapEntry} (ht : P.underlying t = some (.map kt e)) (hx : (u = .map none ∧ ents = #[]) ∨ ∃ r clock, u = .map (some r) ∧ w.heap[r]? = some (.map ents clock))
    (hck : (Instr.checkKey ents.isEmpty 10000 kt k).run P w = .ok () w) {fr : Option (Nat × Value)} (hf : (Instr.findKey kt k ents.toList).run P w = .ok fr w) (hz : (zeroValue e).run P w = .ok zv w) :
    (Instr.lookup t u k ok).run P w = .ok (match fr with | some (_, v) => if ok then .tuple #[v, .bool true] else v | none => if ok then .tuple #[zv, .bool false] else zv) w := by
  unfold Instr.lookup
  simp only [Sem.run_bind, run_und ht, Result.andThen_ok]
  rcases hx with ⟨rfl, rfl⟩ | ⟨r, clock, rfl, hr⟩
  · simp only [Sem.run_bind, Sem.run_pure, Result.andThen_ok, hck, hf]
    cases fr with
    | none => simp [hz]
    | some p => simp
  · simp only [Sem.run_bind, run_getObj hr (by simp), Sem.run_pure, Result.andThen_ok, hck, hf]
    cases fr with
    | none => simp [hz]
    | some p => simp

theorem lookup_ok {o : Oper} {t kt e : TypeId} {ki ok : Bool} {x k : Operand} {y j : Opd} {z : AVal} (ho : o.op = .lookup t x k ok) (ht : P.underlying t = some (.map kt e)) (hk : keyT P kt = some ki) (hz : zeroA P e = some z)
    (hy : cOpd nt x = some y) (hj : cOpd nt k = some j) : ReadOK P nt o fun _ T H => xLookup ki z ok (ev T y) (ev T j) H := by
  intro B W0 W0f H ι T a v w hf hw hb hv
  have hx := cOpd_ok hf hy
  have hkk := cOpd_ok hf hj
  obtain ⟨zv, z1, z2, _⟩ := run_zero (w := w) (B := B) (ι := ι) hz
  simp only [xLookup] at hv
  split at hv
  case h_2 => exact absurd hv (by simp)
  rename_i r er
  rw [er] at hx
  cases hm : mapOf H r with
  | none => simp [hm] at hv
  | some es =>
    simp only [hm] at hv
    cases hik : keyIs ki (ev T j) with
    | false => simp [hik] at hv
    | true =>
      simp only [hik, cond_true] at hv
      cases hfa : findA (ev T j) es with
      | none => simp [hfa] at hv
      | some res =>
        -- the entries that the model has
        have hents : ∃ ents es', ((a.eval x = .map none ∧ ents = #[]) ∨ ∃ r clock, a.eval x = .map (some r) ∧ w.heap[r]? = some (.map ents clock)) ∧ es'.Perm es ∧ erel B ι es' ents.toList ∧ keysOK es := by
          cases r with
          | none =>
            simp only [vrel] at hx
            simp [mapOf] at hm; subst hm
            exact ⟨#[], [], .inl ⟨hx, rfl⟩, List.Perm.refl _, rfl, by simp, List.Pairwise.nil⟩
          | some r =>
            obtain ⟨L, eL, ex⟩ := hx
            simp only [mapOf] at hm
            split at hm
            case h_2 => exact absurd hm (by simp)
            rename_i es0 hg
            simp at hm; subst hm
            obtain ⟨ents, clock, es', h1, h2, h3, h4⟩ := map_obj hw eL hg
            exact ⟨ents, es', .inr ⟨_, clock, ex, h1⟩, h2, h3, h4⟩
        obtain ⟨ents, es', h1, h2, h3, h4⟩ := hents
        have hall := keys_all h4 h2 hfa
        have hck := checkKey_ok (P := P) (w := w) hk ents.isEmpty hik hkk
        rcases findKey_ok (P := P) (w := w) hk hik hkk h3 hall with ⟨q1, q2⟩ | ⟨m1, v0, m2, v', q1, q2, q3, q4⟩
        · -- not there
          rcases findA_ok es res hfa with ⟨rfl, p⟩ | ⟨n1, vv, n2, rfl, rfl, p⟩
          · simp [hfa] at hv; subst hv
            refine ⟨if ok then .tuple #[zv, .bool false] else zv, ?_, ?_⟩
            · have := lookup_run (ok := ok) ht h1 hck q1 z1
              simp [execOp, ho, this]
            · cases ok with
              | true => exact ⟨_, rfl, lrel_cons.2 ⟨_, _, rfl, z2, lrel_cons.2 ⟨_, _, rfl, rfl, lrel_nil.2 rfl⟩⟩⟩
              | false => exact z2
          · exfalso
            have hin : (ev T j, vv) ∈ es' := h2.mem_iff.2 (by simp)
            have := q2 _ hin
            rw [keyIs_self hik] at this; simp at this
        · -- there
          rcases findA_ok es res hfa with ⟨rfl, p⟩ | ⟨n1, vv, n2, rfl, rfl, p⟩
          · exfalso
            have hin : (ev T j, v0) ∈ es := h2.mem_iff.1 (by rw [q2]; simp)
            have := p _ hin
            rw [keyIs_self hik] at this; simp at this
          · subst q2
            obtain ⟨rfl, _⟩ := key_unique h4 h2
            simp [hfa] at hv; subst hv
            refine ⟨if ok then .tuple #[v', .bool true] else v', ?_, ?_⟩
            · have := lookup_run (ok := ok) ht h1 hck q1 z1
              simp [execOp, ho, this]
            · cases ok with
              | true => exact ⟨_, rfl, lrel_cons.2 ⟨_, _, rfl, q3, lrel_cons.2 ⟨_, _, rfl, rfl, lrel_nil.2 rfl⟩⟩⟩
              | false => exact q3

end Am
