/- The abstract machine: every instruction does what the model's operation does. -/
import Derived.Test.YtbhmnhgljlmafaaGreatMd
import Derived.Test.YtbhmnhgljlmafaaGreatMa
import Derived.Orders
import Derived.LoopN
set_option linter.all false

namespace Am
open Go

variable {P : Program} {nt : Nat}

theorem val_run {o : Oper} {f : BaseF → Tmps → AHeap → AOut} {s : List Path} {r : AOp} (h : some (⟨.chain fun W0 _ T H => f W0 T H, s⟩ : AOp) = some r) (hv : ValOK P nt o f) (ho : onlyVal f) : RunOK P nt o r.run := by
  simp at h; subst h
  exact chain_of_val hv ho

theorem cConv_ok {o : Oper} {s d : TypeId} {x : Operand} {y : Opd} {r : AOp} (ho : o.op = .convert s d x) (hy : cOpd nt x = some y) (h : cConv P s d y = some r) : RunOK P nt o r.run := by
  unfold cConv at h
  split at h
  · rename_i q k h1 h2; simp at h; subst h; exact convInt_ok ho h1 (.inl ⟨_, rfl⟩) h2 hy
  · rename_i q k h1 h2; simp at h; subst h; exact convInt_ok ho h1 (.inr ⟨_, rfl⟩) h2 hy
  · rename_i q k h1 h2; simp at h; subst h; exact convFloat_ok ho h1 h2 hy
  · rename_i e h1 h2
    split at h
    case h_2 => exact absurd h (by simp)
    rename_i h3
    simp at h; subst h; exact strBytes_ok ho h1 h2 h3 hy
  · rename_i e h1 h2
    split at h
    case h_2 => exact absurd h (by simp)
    rename_i h3
    simp at h; subst h; exact bytesStr_ok ho h1 h3 h2 hy
  · rename_i e0 e h1 h2
    split at h
    case h_2 => exact absurd h (by simp)
    rename_i h3
    rw [Tree.beq_eq] at h
    by_cases hsd : s = d
    · subst hsd
      simp at h
      subst h
      exact chain_of_val (mark_ok ho h2 h3 hy) (only_mark y)
    · simp [hsd] at h
  · rename_i h1 h2; simp at h; subst h; exact convSame_ok ho h1 h2 hy
  · exact absurd h (by simp)

theorem cLen_ok {o : Oper} {t : TypeId} {x : Operand} {y : Opd} {r : AOp} (ho : o.op = .call { callee := .builtin .len, args := #[x], argTypes := #[t] }) (hy : cOpd nt x = some y) (h : cLen P t y = some r) : RunOK P nt o r.run := by
  unfold cLen at h
  split at h
  · rename_i h1; simp at h; subst h; exact lenS_ok ho h1 hy
  · rename_i h1; simp at h; subst h; exact lenSl_ok ho h1 hy
  · rename_i h1; simp at h; subst h; exact lenM_ok ho h1 hy
  · rename_i h1; simp at h; subst h; exact lenA_ok ho h1
  · rename_i h1
    split at h
    case h_2 => exact absurd h (by simp)
    rename_i h2
    simp at h; subst h; exact lenP_ok ho h1 h2
  · exact absurd h (by simp)

theorem cAppend_ok {o : Oper} {t t1 : TypeId} {s x : Operand} {s' x' : Opd} {r : AOp} (ho : o.op = .call { callee := .builtin .append, args := #[s, x], argTypes := #[t, t1] }) (hs : cOpd nt s = some s') (hx : cOpd nt x = some x')
    (h : cAppend P t t1 s' x' = some r) : RunOK P nt o r.run := by
  have key : ∀ {e : TypeId}, P.underlying t = some (.slice e) → ((∃ q, P.underlying t1 = some (.slice q)) ∨ P.underlying t1 = some .string) →
      (match P.info? e, zeroA P e with
        | some i, some z => bif !(Nat.beq i.size 0) && (!(Nat.beq i.bytes 0) && Nat.beq z.cells.length i.size) then
            some (⟨.chain fun W0 _ T H => pv2 (appendA W0 H e i.size i.bytes (ev T s') (ev T x')), s'.slots ++ x'.slots⟩ : AOp) else none
        | _, _ => none) = some r → RunOK P nt o r.run := by
    intro e ht hu h
    cases hi : P.info? e with
    | none => simp [hi] at h
    | some i =>
      cases hz : zeroA P e with
      | none => simp [hi, hz] at h
      | some z =>
        simp only [hi, hz] at h
        cases hc : (!(Nat.beq i.size 0) && (!(Nat.beq i.bytes 0) && Nat.beq z.cells.length i.size)) with
        | false => simp [hc] at h
        | true =>
          simp only [hc, cond_true] at h
          simp only [Bool.and_eq_true, Tree.beq_eq, Bool.not_eq_true', decide_eq_false_iff_not, decide_eq_true_eq] at hc
          exact val_run h (append_ok ho ht hu hi hz hc.1 hc.2.1 hc.2.2 hs hx) onlyVal_pv
  unfold cAppend at h
  split at h
  · rename_i e q h1 h2; exact key h1 (.inl ⟨q, h2⟩) h
  · rename_i e h1 h2; exact key h1 (.inr h2) h
  · exact absurd h (by simp)

theorem arr_of_list {α : Type} {x : Array α} {l : List α} (h : x.toList = l) : x = l.toArray := by rw [← h]

theorem cBuiltin_ok {o : Oper} {b : Builtin} {args : Array Operand} {at_ : Array TypeId} {args' : List Opd} {r : AOp} (ho : o.op = .call { callee := .builtin b, args, argTypes := at_ }) (ha : mapOpt (cOpd nt) args.toList = some args')
    (h : cBuiltin P b at_.toList args' = some r) : RunOK P nt o r.run := by
  -- one argument, two arguments
  have one : ∀ {x' : Opd}, args' = [x'] → ∃ x, args = #[x] ∧ cOpd nt x = some x' := by
    intro x' e
    subst e
    cases hl : args.toList with
    | nil => rw [hl] at ha; simp [mapOpt] at ha
    | cons x xs =>
      rw [hl] at ha
      obtain ⟨y, ys, h1, h2, h3⟩ := mapOpt_cons ha
      simp at h3
      obtain ⟨rfl, rfl⟩ := h3
      cases xs with
      | nil => exact ⟨x, by rw [arr_of_list hl], h1⟩
      | cons x2 xs => obtain ⟨_, _, _, _, h4⟩ := mapOpt_cons h2; simp at h4
  have two : ∀ {x' y' : Opd}, args' = [x', y'] → ∃ x y, args = #[x, y] ∧ cOpd nt x = some x' ∧ cOpd nt y = some y' := by
    intro x' y' e
    subst e
    cases hl : args.toList with
    | nil => rw [hl] at ha; simp [mapOpt] at ha
    | cons x xs =>
      rw [hl] at ha
      obtain ⟨z, zs, h1, h2, h3⟩ := mapOpt_cons ha
      simp at h3
      obtain ⟨rfl, rfl⟩ := h3
      cases xs with
      | nil => simp [mapOpt] at h2
      | cons x2 xs =>
        obtain ⟨z2, zs2, h4, h5, h6⟩ := mapOpt_cons h2
        simp at h6
        obtain ⟨rfl, rfl⟩ := h6
        cases xs with
        | nil => exact ⟨x, x2, by rw [arr_of_list hl], h1, h4⟩
        | cons x3 xs => obtain ⟨_, _, _, _, h7⟩ := mapOpt_cons h5; simp at h7
  have zero : args' = [] → args = #[] := by
    intro e
    subst e
    cases hl : args.toList with
    | nil => rw [arr_of_list hl]
    | cons x xs => rw [hl] at ha; obtain ⟨_, _, _, _, h4⟩ := mapOpt_cons ha; simp at h4
  unfold cBuiltin at h
  split at h
  · rename_i t x' hat
    obtain ⟨x, rfl, hx⟩ := one rfl
    rw [arr_of_list hat] at ho
    exact cLen_ok ho hx h
  · rename_i t t1 s' x' hat
    obtain ⟨s, x, rfl, hs, hx⟩ := two rfl
    rw [arr_of_list hat] at ho
    exact cAppend_ok ho hs hx h
  · simp at h; subst h; exact minmax_ok (mx := false) ho ha
  · simp at h; subst h; exact minmax_ok (mx := true) ho ha
  · rename_i t x' hat
    obtain ⟨x, rfl, hx⟩ := one rfl
    rw [arr_of_list hat] at ho
    split at h
    case h_2 => exact absurd h (by simp)
    rename_i h1
    exact val_run h (clear_ok ho h1 hx) (only_clear x')
  · rename_i t t1 m' k' hat
    obtain ⟨m, k, rfl, hm, hk⟩ := two rfl
    rw [arr_of_list hat] at ho
    split at h
    case h_2 => exact absurd h (by simp)
    rename_i kt e h1
    split at h
    case h_2 => exact absurd h (by simp)
    rename_i ki h2
    exact val_run h (delete_ok ho h1 h2 hm hk) (only_delete ki m' k')
  · rename_i t t1 d' s' hat
    obtain ⟨d, s, rfl, hd, hs⟩ := two rfl
    rw [arr_of_list hat] at ho
    split at h
    case h_2 => exact absurd h (by simp)
    rename_i e h1
    split at h
    case h_2 => exact absurd h (by simp)
    rename_i n h2
    exact val_run h (copy_ok ho h1 h2 hd hs) (only_copy n d' s')
  · have := zero rfl
    subst this
    simp at h; subst h
    exact ⟨at_, o.type, ho, rfl⟩
  · exact absurd h (by simp)

theorem cBuild_ok {o : Oper} {t : TypeId} {ps : Array (Nat × Operand)} {r : AOp} (ho : o.op = .build t ps) (h : cBuild P nt t ps.toList = some r) : RunOK P nt o r.run := by
  unfold cBuild at h
  split at h
  · rename_i z fs h1 h2
    split at h
    case h_2 => exact absurd h (by simp)
    rename_i qs h3
    cases hs : allSized P fs.toList with
    | false => simp [hs] at h
    | true =>
      simp [hs] at h; subst h
      exact buildS_ok ho h2 h1 hs h3
  · rename_i z len e h1 h2
    split at h
    case h_2 => exact absurd h (by simp)
    rename_i size h3
    split at h
    case h_2 => exact absurd h (by simp)
    rename_i qs h4
    simp at h; subst h
    exact buildA_ok ho h2 h1 h3 h4
  · exact absurd h (by simp)

theorem cBuildSl_ok {o : Oper} {t : TypeId} {len : Nat} {ps : Array (Nat × Operand)} {r : AOp} (ho : o.op = .buildSlice t len ps) (h : cBuildSl P nt t len ps.toList = some r) : RunOK P nt o r.run := by
  unfold cBuildSl at h
  split at h
  case h_2 => exact absurd h (by simp)
  rename_i e h1
  split at h
  case h_2 => exact absurd h (by simp)
  rename_i z size h2 h3
  cases hc : (Nat.beq z.cells.length size && !(Nat.beq size 0) && Nat.ble (len * size) 65536) with
  | false => simp [hc] at h
  | true =>
    simp only [hc, cond_true] at h
    split at h
    case h_2 => exact absurd h (by simp)
    rename_i qs h4
    simp at h; subst h
    simp only [Bool.and_eq_true, Tree.beq_eq, Bool.not_eq_true', decide_eq_false_iff_not, decide_eq_true_eq] at hc
    exact buildSl_ok ho h1 h2 h3 hc.1.1 hc.1.2 (Nat.le_of_ble_eq_true hc.2) h4

theorem cEq_ok {o : Oper} {neg : Bool} {t ty : TypeId} {x y : Operand} {x' y' : Opd} {r : AOp} (ho : o.op = .binOp (eqOpOf neg) t x y ty) (hx : cOpd nt x = some x') (hy : cOpd nt y = some y') (h : cEq P neg t x' y' = some r) : RunOK P nt o r.run := by
  unfold cEq at h
  split at h
  · simp at h; subst h; exact eq_of ho hx hy (eqNum_ok t x y)
  · simp at h; subst h; exact eq_of ho hx hy (eqNum_ok t x y)
  · simp at h; subst h; exact eq_of ho hx hy (eqNum_ok t x y)
  · rename_i h1; simp at h; subst h; exact eq_of ho hx hy (eqBool_ok h1 x y)
  · rename_i h1; simp at h; subst h; exact eq_of ho hx hy (eqSl_ok h1 x y)
  · rename_i h1; simp at h; subst h; exact eq_of ho hx hy (eqMap_ok h1 x y)
  · rename_i h1; simp at h; subst h; exact eq_of ho hx hy (eqFunc_ok h1 x y)
  · rename_i h1; simp at h; subst h; exact eq_of ho hx hy (eqIf_ok h1 hx hy)
  · rename_i fs h1
    split at h
    case h_2 => exact absurd h (by simp)
    rename_i ks h2
    cases hs : P.stoodInHeld t with
    | true => simp [hs] at h
    | false =>
      simp [hs] at h; subst h
      exact eq_of ho hx hy (eqAgg_ok h1 h2 hs x y)
  · rename_i e h1
    split at h
    case h_2 => exact absurd h (by simp)
    rename_i n h2
    rw [Tree.beq_eq] at h
    by_cases hn : n = 0
    · simp [hn] at h
    · simp [hn] at h; subst h
      exact eqPtr_ok ho h1 h2 hn hx hy
  · exact absurd h (by simp)

theorem cBin_ok {o : Oper} {op : BinOp} {t ty : TypeId} {x y : Operand} {x' y' : Opd} {r : AOp} (ho : o.op = .binOp op t x y ty) (hx : cOpd nt x = some x') (hy : cOpd nt y = some y') (h : cBin P op t x' y' = some r) : RunOK P nt o r.run := by
  unfold cBin at h
  split at h
  · exact cEq_ok (neg := false) ho hx hy h
  · exact cEq_ok (neg := true) ho hx hy h
  · rename_i h1 h2
    simp at h; subst h
    exact bin_ok ho h1 h2 hx hy

theorem cOp_ok {os : List Oper} {o : Oper} {r : AOp} (h : cOp P nt os o.op = some r) : RunOK P nt o r.run := by
  cases ho : o.op <;> rw [ho] at h <;> simp only [cOp] at h
  case move x =>
    split at h
    case h_2 => exact absurd h (by simp)
    rename_i y hy
    simp at h; subst h; exact mv_ok (.inl ho) hy
  case assign x =>
    split at h
    case h_2 => exact absurd h (by simp)
    rename_i y hy
    simp at h; subst h; exact mv_ok (.inr ho) hy
  case pick c x y =>
    split at h
    case h_2 => exact absurd h (by simp)
    rename_i c' x' y' hc hx hy
    simp at h; subst h; exact pick_ok ho hc hx hy
  case alloc t =>
    split at h
    case h_2 => exact absurd h (by simp)
    rename_i z hz
    simp at h; subst h; exact alloc_ok ho hz
  case box t x =>
    split at h
    case h_2 => exact absurd h (by simp)
    rename_i y hy
    simp at h; subst h; exact box_ok ho hy
  case build t ps => exact cBuild_ok ho h
  case buildSlice t len ps => exact cBuildSl_ok ho h
  case load t x =>
    split at h
    · rename_i y hy hs; simp at h; subst h; exact load1_ok ho hs hy
    · rename_i y n hy hs; simp at h; subst h; exact loadN_ok ho hs hy
    · exact absurd h (by simp)
  case store t x y =>
    split at h
    case h_2 => exact absurd h (by simp)
    rename_i x' y' n hx hy hn
    exact val_run h (store_ok ho hn hx hy) (onlyVal_store n x' y')
  case nilCheck x =>
    split at h
    case h_2 => exact absurd h (by simp)
    rename_i y hy
    simp at h; subst h; exact nilCheck_ok ho hy
  case binOp op t x y ty =>
    split at h
    case h_2 => exact absurd h (by simp)
    rename_i x' y' hx hy
    exact cBin_ok ho hx hy h
  case unOp op t x =>
    split at h
    case h_2 => exact absurd h (by simp)
    rename_i y hy
    simp at h; subst h; exact unA_ok ho hy
  case convert s d x =>
    split at h
    case h_2 => exact absurd h (by simp)
    rename_i y hy
    exact cConv_ok ho hy h
  case makeInterface t x =>
    split at h
    · exact absurd h (by simp)
    · rename_i d y h0 h1 hy
      simp at h; subst h
      refine mkIface_ok ho h1 (fun ms e => ?_) hy
      subst e
      exact h0 ms rfl
    · exact absurd h (by simp)
  case makeFunc fn f c =>
    split at h
    case h_2 => exact absurd h (by simp)
    rename_i f' c' hf hc
    simp at h; subst h; exact mkFunc_ok ho hf hc
  case makeMap t n =>
    cases n with
    | some n => simp at h
    | none => simp at h; subst h; exact mkMap_ok ho
  case makeSlice t l c =>
    split at h
    case h_2 => exact absurd h (by simp)
    rename_i l' c' hl hc
    unfold cMakeSlice at h
    split at h
    case h_2 => exact absurd h (by simp)
    rename_i e h1
    split at h
    case h_2 => exact absurd h (by simp)
    rename_i z i h2 h3
    cases hcc : (Nat.beq z.cells.length i.size && !(Nat.beq i.size 0)) with
    | false => simp [hcc] at h
    | true =>
      simp only [hcc, cond_true] at h
      simp at h; subst h
      simp only [Bool.and_eq_true, Tree.beq_eq, Bool.not_eq_true', decide_eq_false_iff_not, decide_eq_true_eq] at hcc
      exact mkSlice_ok ho h1 h2 h3 hcc.1 hcc.2 hl hc
  case slice t x lo hi mx =>
    split at h
    case h_2 => exact absurd h (by simp)
    rename_i x' lo' hi' mx' hx hlo hhi hmx
    unfold cSlice at h
    split at h
    · rename_i h1
      split at h
      case h_2 => exact absurd h (by simp)
      have hm : mx = none := by
        cases mx with
        | none => rfl
        | some m => simp only [cOpt] at hmx; split at hmx <;> simp at hmx
      subst hm
      simp at h; subst h; exact sliceStr_ok ho h1 hx hlo hhi
    · rename_i e h1
      split at h
      case h_2 => exact absurd h (by simp)
      rename_i n hn
      simp at h; subst h; exact sliceSl_ok ho h1 hn hx hlo hhi hmx
    · rename_i k e h1
      split at h
      case h_2 => exact absurd h (by simp)
      rename_i n hn
      simp at h; subst h; exact sliceArr_ok ho h1 hn hx hlo hhi hmx
    · exact absurd h (by simp)
  case fieldAddr t x f =>
    split at h
    case h_2 => exact absurd h (by simp)
    rename_i y hy
    unfold cFieldAddr at h
    split at h
    case h_2 => exact absurd h (by simp)
    rename_i fs h1
    split at h
    case h_2 => exact absurd h (by simp)
    rename_i fd h2
    split at h
    case h_2 => exact absurd h (by simp)
    rename_i n h3
    rw [Tree.beq_eq] at h
    by_cases hn : n = 0
    · simp [hn] at h
    · simp [hn] at h; subst h; exact fieldAddr_ok ho h1 h2 h3 hn hy
  case field t x f =>
    split at h
    case h_2 => exact absurd h (by simp)
    rename_i y hy
    unfold cField at h
    split at h
    case h_2 => exact absurd h (by simp)
    rename_i fs h1
    split at h
    case h_2 => exact absurd h (by simp)
    rename_i fd h2
    split at h
    · rename_i h3; simp at h; subst h; exact field1_ok ho h1 h2 h3 hy
    · rename_i n h3; simp at h; subst h; exact fieldN_ok ho h1 h2 h3 hy
    · exact absurd h (by simp)
  case indexAddr t x i =>
    split at h
    case h_2 => exact absurd h (by simp)
    rename_i y j hy hj
    unfold cIndexAddr at h
    split at h
    · rename_i len e h1
      split at h
      case h_2 => exact absurd h (by simp)
      rename_i n hn
      simp at h; subst h; exact idxArr_ok ho h1 hn hy hj
    · rename_i e h1
      split at h
      case h_2 => exact absurd h (by simp)
      rename_i n hn
      simp at h; subst h; exact idxSl_ok ho h1 hn hy hj
    · exact absurd h (by simp)
  case index t x i =>
    split at h
    case h_2 => exact absurd h (by simp)
    rename_i y j hy hj
    unfold cIndex at h
    split at h
    · rename_i len e h1
      split at h
      case h_2 => exact absurd h (by simp)
      rename_i n h2 h3
      rw [Tree.beq_eq] at h
      by_cases hn : n = 1
      · subst hn; simp at h; subst h; exact index1_ok ho h1 h2 h3 hy hj
      · simp [hn] at h
    · rename_i h1; simp at h; subst h; exact indexStr_ok ho h1 hy hj
    · exact absurd h (by simp)
  case lookup t x k ok =>
    split at h
    case h_2 => exact absurd h (by simp)
    rename_i y j kt e hy hj h1
    split at h
    case h_2 => exact absurd h (by simp)
    rename_i z ki hz hk
    simp at h; subst h; exact lookup_ok ho h1 hk hz hy hj
  case mapUpdate t m k x =>
    split at h
    case h_2 => exact absurd h (by simp)
    rename_i m' k' x' kt e hm hk hx h1
    split at h
    case h_2 => exact absurd h (by simp)
    rename_i ki hki
    exact val_run h (mapUpd_ok ho h1 hki hm hk hx) (only_mapUpd ki m' k' x')
  case typeAssert x xt t ok =>
    split at h
    · exact absurd h (by simp)
    · rename_i y d h0 hy h1
      split at h
      case h_2 => exact absurd h (by simp)
      rename_i z hz
      simp at h; subst h
      refine assert_ok ho h1 (fun ms e => ?_) hz hy
      subst e
      exact h0 ms rfl
    · exact absurd h (by simp)
  case extract x i =>
    split at h
    case h_2 => exact absurd h (by simp)
    rename_i y hy
    simp at h; subst h; exact extract_ok ho hy
  case call c =>
    obtain ⟨callee, args, at_⟩ := c
    split at h
    case h_2 => exact absurd h (by simp)
    rename_i args' ha
    split at h
    · rename_i f hf0
      simp only at hf0; subst hf0
      split at h
      case h_2 => exact absurd h (by simp)
      rename_i f' hf
      simp at h; subst h; exact callV_ok ho hf ha
    · rename_i r0 name hf0
      simp only at hf0; subst hf0
      split at h
      case h_2 => exact absurd h (by simp)
      rename_i r' hr
      simp at h; subst h; exact invoke_ok ho hr ha
    · rename_i b hf0
      simp only at hf0; subst hf0
      exact cBuiltin_ok ho ha h
  case defer c =>
    obtain ⟨callee, args, at_⟩ := c
    split at h
    case h_2 => exact absurd h (by simp)
    rename_i args' ha
    split at h
    · rename_i f hf0
      simp only at hf0; subst hf0
      split at h
      case h_2 => exact absurd h (by simp)
      rename_i f' hf
      simp at h; subst h; exact dfr_ok ho hf ha
    · exact absurd h (by simp)
  case panic x =>
    split at h
    case h_2 => exact absurd h (by simp)
    rename_i y hy
    simp at h; subst h; exact panic_ok ho hy
  all_goals exact absurd h (by simp)

end Am

namespace Am
open Go

variable {P : Program} {nt : Nat} {T T' : Tmps}

def Agr (T T' : Tmps) (s : List Path) : Prop := ∀ p ∈ s, getT T p = getT T' p

theorem agr_nil : Agr T T' [] ↔ True := by simp [Agr]
theorem agr_app {a b : List Path} : Agr T T' (a ++ b) ↔ Agr T T' a ∧ Agr T T' b := by
  simp only [Agr, List.mem_append, or_imp, forall_and]
theorem agr_opd {x : Opd} : Agr T T' x.slots ↔ ev T x = ev T' x := by
  cases x <;> simp [Agr, Opd.slots, ev]
theorem agr_opt {x : Option Opd} : Agr T T' (optSlots x) ↔ evOpt T x = evOpt T' x := by
  cases x with
  | none => simp [Agr, optSlots, evOpt]
  | some x => simp only [optSlots, evOpt, agr_opd, Option.some.injEq]
theorem agr_all : ∀ {l : List Opd}, Agr T T' (allSlots l) ↔ evs T l = evs T' l
  | [] => by simp [Agr, allSlots, evs]
  | x :: xs => by simp only [allSlots, evs, agr_app, agr_opd, agr_all (l := xs), List.cons.injEq]
theorem agr_parts : ∀ {l : List (Nat × Nat × Opd)} (z : List AVal), Agr T T' (partSlots l) → fillA T z l = fillA T' z l
  | [], _, _ => rfl
  | (o, n, x) :: xs, z, h => by
    simp only [partSlots, agr_app, agr_opd] at h
    simp only [fillA, h.1]
    cases setCells z o (ev T' x).cells with
    | none => rfl
    | some cs => simp only [agr_parts cs h.2]

def SameRun (T T' : Tmps) : ARun → Prop
  | .pure f => f T = f T'
  | .alloc f => f T = f T'
  | .read f => ∀ W0 H, f W0 T H = f W0 T' H
  | .chain f => ∀ W0 callf H, f W0 callf T H = f W0 callf T' H
  | .recover => True

theorem cConv_slots {s d : TypeId} {x : Opd} {r : AOp} (h : cConv P s d x = some r) : Agr T T' r.slots → SameRun T T' r.run := by
  unfold cConv at h
  try simp only [Bool.cond_eq_ite] at h
  repeat' (split at h)
  all_goals first
    | (exfalso; simp at h; done)
    | (simp only [Option.some.injEq] at h; subst h
       intro hs
       try simp only [agr_app, agr_opd, agr_opt, agr_all] at hs
       simp only [SameRun, hs, implies_true]; done)
    | (simp only [Option.some.injEq] at h; subst h
       intro hs
       try simp only [agr_app, agr_opd, agr_opt, agr_all] at hs
       simp_all [SameRun]; done)
    | (simp only [Option.some.injEq] at h; subst h
       intro hs
       simp only [SameRun, agr_parts _ hs]; done)

theorem cLen_slots {t : TypeId} {x : Opd} {r : AOp} (h : cLen P t x = some r) : Agr T T' r.slots → SameRun T T' r.run := by
  unfold cLen at h
  try simp only [Bool.cond_eq_ite] at h
  repeat' (split at h)
  all_goals first
    | (exfalso; simp at h; done)
    | (simp only [Option.some.injEq] at h; subst h
       intro hs
       try simp only [agr_app, agr_opd, agr_opt, agr_all] at hs
       simp only [SameRun, hs, implies_true]; done)
    | (simp only [Option.some.injEq] at h; subst h
       intro hs
       try simp only [agr_app, agr_opd, agr_opt, agr_all] at hs
       simp_all [SameRun]; done)
    | (simp only [Option.some.injEq] at h; subst h
       intro hs
       simp only [SameRun, agr_parts _ hs]; done)

theorem cAppend_slots {t u : TypeId} {s x : Opd} {r : AOp} (h : cAppend P t u s x = some r) : Agr T T' r.slots → SameRun T T' r.run := by
  unfold cAppend at h
  try simp only [Bool.cond_eq_ite] at h
  repeat' (split at h)
  all_goals first
    | (exfalso; simp at h; done)
    | (simp only [Option.some.injEq] at h; subst h
       intro hs
       try simp only [agr_app, agr_opd, agr_opt, agr_all] at hs
       simp only [SameRun, hs, implies_true]; done)
    | (simp only [Option.some.injEq] at h; subst h
       intro hs
       try simp only [agr_app, agr_opd, agr_opt, agr_all] at hs
       simp_all [SameRun]; done)
    | (simp only [Option.some.injEq] at h; subst h
       intro hs
       simp only [SameRun, agr_parts _ hs]; done)

theorem cBuild_slots {t : TypeId} {ps : List (Nat × Operand)} {r : AOp} (h : cBuild P nt t ps = some r) : Agr T T' r.slots → SameRun T T' r.run := by
  unfold cBuild at h
  try simp only [Bool.cond_eq_ite] at h
  repeat' (split at h)
  all_goals first
    | (exfalso; simp at h; done)
    | (simp only [Option.some.injEq] at h; subst h
       intro hs
       try simp only [agr_app, agr_opd, agr_opt, agr_all] at hs
       simp only [SameRun, hs, implies_true]; done)
    | (simp only [Option.some.injEq] at h; subst h
       intro hs
       try simp only [agr_app, agr_opd, agr_opt, agr_all] at hs
       simp_all [SameRun]; done)
    | (simp only [Option.some.injEq] at h; subst h
       intro hs
       simp only [SameRun, agr_parts _ hs]; done)

theorem cBuildSl_slots {t : TypeId} {n : Nat} {ps : List (Nat × Operand)} {r : AOp} (h : cBuildSl P nt t n ps = some r) : Agr T T' r.slots → SameRun T T' r.run := by
  unfold cBuildSl at h
  try simp only [Bool.cond_eq_ite] at h
  repeat' (split at h)
  all_goals first
    | (exfalso; simp at h; done)
    | (simp only [Option.some.injEq] at h; subst h
       intro hs
       try simp only [agr_app, agr_opd, agr_opt, agr_all] at hs
       simp only [SameRun, hs, implies_true]; done)
    | (simp only [Option.some.injEq] at h; subst h
       intro hs
       try simp only [agr_app, agr_opd, agr_opt, agr_all] at hs
       simp_all [SameRun]; done)
    | (simp only [Option.some.injEq] at h; subst h
       intro hs
       simp only [SameRun, agr_parts _ hs]; done)

theorem cEq_slots {b : Bool} {t : TypeId} {x y : Opd} {r : AOp} (h : cEq P b t x y = some r) : Agr T T' r.slots → SameRun T T' r.run := by
  unfold cEq at h
  try simp only [Bool.cond_eq_ite] at h
  repeat' (split at h)
  all_goals first
    | (exfalso; simp at h; done)
    | (simp only [Option.some.injEq] at h; subst h
       intro hs
       try simp only [agr_app, agr_opd, agr_opt, agr_all] at hs
       simp only [SameRun, hs, implies_true]; done)
    | (simp only [Option.some.injEq] at h; subst h
       intro hs
       try simp only [agr_app, agr_opd, agr_opt, agr_all] at hs
       simp_all [SameRun]; done)
    | (simp only [Option.some.injEq] at h; subst h
       intro hs
       simp only [SameRun, agr_parts _ hs]; done)

theorem cMakeSlice_slots {t : TypeId} {x y : Opd} {r : AOp} (h : cMakeSlice P t x y = some r) : Agr T T' r.slots → SameRun T T' r.run := by
  unfold cMakeSlice at h
  try simp only [Bool.cond_eq_ite] at h
  repeat' (split at h)
  all_goals first
    | (exfalso; simp at h; done)
    | (simp only [Option.some.injEq] at h; subst h
       intro hs
       try simp only [agr_app, agr_opd, agr_opt, agr_all] at hs
       simp only [SameRun, hs, implies_true]; done)
    | (simp only [Option.some.injEq] at h; subst h
       intro hs
       try simp only [agr_app, agr_opd, agr_opt, agr_all] at hs
       simp_all [SameRun]; done)
    | (simp only [Option.some.injEq] at h; subst h
       intro hs
       simp only [SameRun, agr_parts _ hs]; done)

theorem cSlice_slots {t : TypeId} {x : Opd} {lo hi mx : Option Opd} {r : AOp} (h : cSlice P t x lo hi mx = some r) : Agr T T' r.slots → SameRun T T' r.run := by
  unfold cSlice at h
  try simp only [Bool.cond_eq_ite] at h
  repeat' (split at h)
  all_goals first
    | (exfalso; simp at h; done)
    | (simp only [Option.some.injEq] at h; subst h
       intro hs
       try simp only [agr_app, agr_opd, agr_opt, agr_all] at hs
       simp only [SameRun, hs, implies_true]; done)
    | (simp only [Option.some.injEq] at h; subst h
       intro hs
       try simp only [agr_app, agr_opd, agr_opt, agr_all] at hs
       simp_all [SameRun]; done)
    | (simp only [Option.some.injEq] at h; subst h
       intro hs
       simp only [SameRun, agr_parts _ hs]; done)

theorem cFieldAddr_slots {t : TypeId} {x : Opd} {f : Nat} {r : AOp} (h : cFieldAddr P t x f = some r) : Agr T T' r.slots → SameRun T T' r.run := by
  unfold cFieldAddr at h
  try simp only [Bool.cond_eq_ite] at h
  repeat' (split at h)
  all_goals first
    | (exfalso; simp at h; done)
    | (simp only [Option.some.injEq] at h; subst h
       intro hs
       try simp only [agr_app, agr_opd, agr_opt, agr_all] at hs
       simp only [SameRun, hs, implies_true]; done)
    | (simp only [Option.some.injEq] at h; subst h
       intro hs
       try simp only [agr_app, agr_opd, agr_opt, agr_all] at hs
       simp_all [SameRun]; done)
    | (simp only [Option.some.injEq] at h; subst h
       intro hs
       simp only [SameRun, agr_parts _ hs]; done)

theorem cField_slots {t : TypeId} {x : Opd} {f : Nat} {r : AOp} (h : cField P t x f = some r) : Agr T T' r.slots → SameRun T T' r.run := by
  unfold cField at h
  try simp only [Bool.cond_eq_ite] at h
  repeat' (split at h)
  all_goals first
    | (exfalso; simp at h; done)
    | (simp only [Option.some.injEq] at h; subst h
       intro hs
       try simp only [agr_app, agr_opd, agr_opt, agr_all] at hs
       simp only [SameRun, hs, implies_true]; done)
    | (simp only [Option.some.injEq] at h; subst h
       intro hs
       try simp only [agr_app, agr_opd, agr_opt, agr_all] at hs
       simp_all [SameRun]; done)
    | (simp only [Option.some.injEq] at h; subst h
       intro hs
       simp only [SameRun, agr_parts _ hs]; done)

theorem cIndexAddr_slots {t : TypeId} {x y : Opd} {r : AOp} (h : cIndexAddr P t x y = some r) : Agr T T' r.slots → SameRun T T' r.run := by
  unfold cIndexAddr at h
  try simp only [Bool.cond_eq_ite] at h
  repeat' (split at h)
  all_goals first
    | (exfalso; simp at h; done)
    | (simp only [Option.some.injEq] at h; subst h
       intro hs
       try simp only [agr_app, agr_opd, agr_opt, agr_all] at hs
       simp only [SameRun, hs, implies_true]; done)
    | (simp only [Option.some.injEq] at h; subst h
       intro hs
       try simp only [agr_app, agr_opd, agr_opt, agr_all] at hs
       simp_all [SameRun]; done)
    | (simp only [Option.some.injEq] at h; subst h
       intro hs
       simp only [SameRun, agr_parts _ hs]; done)

theorem cIndex_slots {t : TypeId} {x y : Opd} {r : AOp} (h : cIndex P t x y = some r) : Agr T T' r.slots → SameRun T T' r.run := by
  unfold cIndex at h
  try simp only [Bool.cond_eq_ite] at h
  repeat' (split at h)
  all_goals first
    | (exfalso; simp at h; done)
    | (simp only [Option.some.injEq] at h; subst h
       intro hs
       try simp only [agr_app, agr_opd, agr_opt, agr_all] at hs
       simp only [SameRun, hs, implies_true]; done)
    | (simp only [Option.some.injEq] at h; subst h
       intro hs
       try simp only [agr_app, agr_opd, agr_opt, agr_all] at hs
       simp_all [SameRun]; done)
    | (simp only [Option.some.injEq] at h; subst h
       intro hs
       simp only [SameRun, agr_parts _ hs]; done)

theorem cBuiltin_slots {b : Builtin} {ts : List TypeId} {l : List Opd} {r : AOp} (h : cBuiltin P b ts l = some r) : Agr T T' r.slots → SameRun T T' r.run := by
  unfold cBuiltin at h
  repeat' (split at h)
  all_goals first
    | exact cLen_slots h
    | exact cAppend_slots h
    | (exfalso; simp at h; done)
    | (simp only [Option.some.injEq] at h; subst h
       intro hs
       try simp only [agr_app, agr_opd, agr_opt, agr_all] at hs
       simp only [SameRun, hs, implies_true]; done)
    | (simp only [Option.some.injEq] at h; subst h
       intro hs
       try simp only [agr_app, agr_opd, agr_opt, agr_all] at hs
       simp_all [SameRun]; done)
    | (simp only [Option.some.injEq] at h; subst h
       intro hs
       simp only [SameRun, agr_parts _ hs]; done)

theorem cBin_slots {b : BinOp} {t : TypeId} {x y : Opd} {r : AOp} (h : cBin P b t x y = some r) : Agr T T' r.slots → SameRun T T' r.run := by
  unfold cBin at h
  repeat' (split at h)
  all_goals first
    | exact cEq_slots h
    | (exfalso; simp at h; done)
    | (simp only [Option.some.injEq] at h; subst h
       intro hs
       try simp only [agr_app, agr_opd, agr_opt, agr_all] at hs
       simp only [SameRun, hs, implies_true]; done)
    | (simp only [Option.some.injEq] at h; subst h
       intro hs
       try simp only [agr_app, agr_opd, agr_opt, agr_all] at hs
       simp_all [SameRun]; done)
    | (simp only [Option.some.injEq] at h; subst h
       intro hs
       simp only [SameRun, agr_parts _ hs]; done)

theorem cOp_slots {os : List Oper} {o : Op} {r : AOp} (h : cOp P nt os o = some r) : Agr T T' r.slots → SameRun T T' r.run := by
  cases o <;> simp only [cOp] at h
  all_goals repeat' (split at h)
  all_goals first
    | exact cConv_slots h
    | exact cBuild_slots h
    | exact cBuildSl_slots h
    | exact cBin_slots h
    | exact cMakeSlice_slots h
    | exact cSlice_slots h
    | exact cFieldAddr_slots h
    | exact cField_slots h
    | exact cIndexAddr_slots h
    | exact cIndex_slots h
    | exact cBuiltin_slots h
    | (exfalso; simp at h; done)
    | (simp only [Option.some.injEq] at h; subst h
       intro hs
       try simp only [agr_app, agr_opd, agr_opt, agr_all] at hs
       simp only [SameRun, hs, implies_true]; done)
    | (simp only [Option.some.injEq] at h; subst h
       intro hs
       try simp only [agr_app, agr_opd, agr_opt, agr_all] at hs
       simp_all [SameRun]; done)
    | (simp only [Option.some.injEq] at h; subst h
       intro hs
       simp only [SameRun, agr_parts _ hs]; done)

end Am

namespace Am
open Go

variable {P : Program} {B nt : Nat} {ι ι' : Iota} {T T' : Tmps} {a a' : Act} {W0 w w' : World} {W0f : BaseF} {H H' : AHeap} {callf : CallF}
  {ops : Array Oper} {Q : Exit → Act → World → Prop} {K : Act → World → Prop} {D D' : List ADef}

def DefRel (B : Nat) (ι : Iota) (d : ADef) (d' : Deferred) : Prop :=
  ∃ cap args', d' = { target := .fn (.func d.fn) cap, args := args' } ∧ lrel B ι d.args (args'.toList ++ cap.toList)

def DRel (B : Nat) (ι : Iota) : List ADef → List Deferred → Prop
  | [], l => l = []
  | d :: ds, l => ∃ d' ds', l = d' :: ds' ∧ DefRel B ι d d' ∧ DRel B ι ds ds'

theorem DefRel.mono (hi : ι.le ι') {d : ADef} {d' : Deferred} (h : DefRel B ι d d') : DefRel B ι' d d' := by
  obtain ⟨c, as, e, r⟩ := h
  exact ⟨c, as, e, lrel_mono hi _ _ r⟩

theorem DRel.mono (hi : ι.le ι') : ∀ {D : List ADef} {l : List Deferred}, DRel B ι D l → DRel B ι' D l
  | [], _, h => h
  | _ :: _, _, ⟨d', ds', e, h, hs⟩ => ⟨d', ds', e, h.mono hi, DRel.mono hi hs⟩

def ExRel (B : Nat) (ι : Iota) : AExit → Exit → Prop
  | .normal, e => e = .normal
  | .exit id, e => e = .exit id
  | .ret, e => e = .ret
  | .pan v, e => ∃ v', e = .panic [{ v := v', recovered := false }] ∧ vrel B ι v v'

/-- what the world's side owes at the end of a run -/
def Post (B : Nat) (W0 : World) (nt : Nat) (H : AHeap) (ι : Iota) (r : CRes) (Q : Exit → Act → World → Prop) : Prop :=
  ∀ e T' D' H', r = .res e T' D' H' → ∀ e' a' w' ι', Later H ι H' ι' → WRel B W0 H' ι' w' → FRel B ι' nt T' a' → DRel B ι' D' a'.defers → ExRel B ι' e e' → Q e' a' w'

theorem Post.later {r : CRes} (h : Post B W0 nt H ι r Q) (hl : Later H ι H' ι') : Post B W0 nt H' ι' r Q :=
  fun e T' D' H'' hr e' a' w' ι'' h1 => h e T' D' H'' hr e' a' w' ι'' (hl.trans h1)

/-! an instruction -/
theorem bool_of_vrel {x : AVal} {v : Value} (h : vrel B ι x v) (hx : x ≠ .any) (hn : ∀ b, x ≠ .bool b) (b : Bool) : v ≠ .bool b := by
  intro e
  subst e
  cases x with
  | any => exact hx rfl
  | bool b => exact hn b rfl
  | ptr q => cases q <;> simp [vrel] at h
  | map q => cases q <;> simp [vrel] at h
  | _ => simp [vrel] at h

theorem wanted_ok {o : Oper} {g : Option (Path × Bool)} {b : Bool} (hg : cGuard nt ops.toList o.guard = some g) (h : FRel B ι nt T a) (hw : wantedA T g = some b) :
    Region.wanted o (yielded ops a.tmps) = b := by
  unfold Region.wanted
  cases hgd : o.guard with
  | none =>
    rw [hgd] at hg
    simp [cGuard] at hg
    subst hg
    simp [wantedA] at hw
    simp [hw]
  | some p =>
    obtain ⟨j, want⟩ := p
    rw [hgd] at hg
    simp only [cGuard] at hg
    split at hg
    case h_2 => exact absurd hg (by simp)
    rename_i oj hj
    split at hg
    case h_2 => exact absurd hg (by simp)
    rename_i d hd
    by_cases hlt : Nat.blt d nt = true
    case neg => rw [Bool.eq_false_iff.2 hlt] at hg; simp at hg
    rw [hlt] at hg
    simp at hg
    subst hg
    have hlt' : d < nt := Nat.le_of_ble_eq_true hlt
    have hv := h.val d hlt'
    have hs : a.tmps[d]? = some (a.tmps.getD d undef) := by
      simp only [Array.getD_eq_getD_getElem?]
      rw [Array.getElem?_eq_getElem (by rw [h.size]; exact hlt')]
      simp
    have hj' : ops[j]? = some oj := by simpa using hj
    have hy : yielded ops a.tmps j = (match a.tmps.getD d undef with | .bool b => some b | _ => none) := by
      unfold yielded
      rw [hj']
      simp only [Option.bind_some, hd, hs]
      generalize a.tmps.getD d undef = u
      cases u <;> rfl
    show (yielded ops a.tmps j == some want) = b
    rw [hy]
    simp only [wantedA] at hw
    split at hw
    · rename_i c hc
      rw [hc] at hv
      simp only [vrel] at hv
      rw [hv]
      simp at hw
      subst hw
      cases c <;> cases want <;> rfl
    · exact absurd hw (by simp)
    · rename_i h1 h2
      simp at hw; subst hw
      have := bool_of_vrel hv (fun e => h2 e) (fun c e => h1 c e)
      split
      · rename_i c hc; exact absurd hc (this c)
      · rfl

theorem inst_ok {os : List Oper} {o : Oper} {i : AInst} (hc : cInst P nt os o = some i) (hf : FRel B ι nt T a) (hw : WRel B W0 H ι w) (hb : BRel B W0f W0) (hcalls : CallsOK P B W0 callf) (hl : Outs Q)
    (hns : runA W0f callf T H i.run ≠ .stuck)
    (hv : ∀ v H' ι' v' w', runA W0f callf T H i.run = .val v H' → Later H ι H' ι' → WRel B W0 H' ι' w' → vrel B ι' v v' → K (a.put o.dst v') w')
    (hp : ∀ v H' ι' v' w', runA W0f callf T H i.run = .pan v H' → Later H ι H' ι' → WRel B W0 H' ι' w' → vrel B ι' v v' → Q (.panic [{ v := v', recovered := false }]) a w')
    (hd : ∀ d d', runA W0f callf T H i.run = .dfr d → DefRel B ι d d' → K ({ a with defers := d' :: a.defers }.put o.dst undef) w) :
    o.wp P a w K Q ∨ (o.asks P a w ∧ LetsOut Q) := by
  unfold cInst at hc
  split at hc
  case h_2 => exact absurd hc (by simp)
  rename_i op d g h1 h2 h3
  simp at hc; subst hc
  have ho := cOp_ok h1
  simp only at hns hv hp hd
  cases hr : op.run with
  | pure f =>
    rw [hr] at hns hv hp hd ho
    simp only [runA] at hns hv hp hd
    cases hf' : f T with
    | none => rw [hf'] at hns; exact absurd rfl hns
    | some v =>
      rw [hf'] at hv
      obtain ⟨v', e, r⟩ := ho B ι T a v w hf hf'
      exact .inl (by unfold Oper.wp; rw [e]; exact hv v H ι v' w rfl (Later.refl H ι) hw r)
  | read f =>
    rw [hr] at hns hv hp hd ho
    simp only [runA] at hns hv hp hd
    cases hf' : f W0f T H with
    | none => rw [hf'] at hns; exact absurd rfl hns
    | some v =>
      rw [hf'] at hv
      obtain ⟨v', e, r⟩ := ho B W0 W0f H ι T a v w hf hw hb hf'
      exact .inl (by unfold Oper.wp; rw [e]; exact hv v H ι v' w rfl (Later.refl H ι) hw r)
  | alloc f =>
    rw [hr] at hns hv hp hd ho
    simp only [runA] at hns hv hp hd
    cases hf' : f T with
    | none => rw [hf'] at hns; exact absurd rfl hns
    | some q =>
      obtain ⟨x, mk⟩ := q
      rw [hf'] at hv
      obtain ⟨v', w', ob, L, e, hw', hL, hrel⟩ := ho B ι T a x mk w hf hf'
      have hn : ι H.next = none := hw.none_next (Nat.le_refl _)
      obtain ⟨r1, r2⟩ := hrel H.next hn
      refine .inl ?_
      unfold Oper.wp
      rw [e]
      refine hv (mk H.next) (H.new x) (ι.put H.next L) v' w' rfl ⟨Iota.put_le hn, fun j hj hj' => ?_, by simp, fun j hj _ => ?_⟩ ?_ r2
      · unfold Iota.put; rw [if_neg (by omega)]; exact hj'
      · rw [AHeap.get_new, if_neg (by omega)]
      · refine (hw.grow x).place (i := H.next) (o := x) (by simp) hn hL hw'.1 hw'.2 fun y hy => ?_
        rw [AHeap.get_new, if_pos rfl] at hy
        simp at hy; subst hy; exact r1
  | chain f =>
    rw [hr] at hns hv hp hd ho
    simp only [runA] at hns hv hp hd
    exact ho B W0 W0f callf H ι T a w K Q hf hw hb hcalls hl hv hp hd hns
  | recover =>
    rw [hr] at hns
    exact absurd rfl hns

theorem getT_undef : vrel B ι AVal.undef undef := ⟨#[], rfl, by simp [lrel]⟩

theorem aops_ok (hb : BRel B W0f W0) (hcalls : CallsOK P B W0 callf) (hl : Outs Q) : ∀ (l : List Oper) (is : List AInst) (k : Nat) (T : Tmps) (D : List ADef) (H : AHeap) (ι : Iota) (a : Act) (w : World),
    ops.toList.drop k = l → mapOpt (cInst P nt ops.toList) l = some is → FRel B ι nt T a → DRel B ι D a.defers → WRel B W0 H ι w →
    aops W0f callf is T D H ≠ .stuck → Post B W0 nt H ι (aops W0f callf is T D H) Q → wpOps P ops Q (List.range' k l.length) a w
  | [], is, k, T, D, H, ι, a, w, hk, hm, hf, hd, hw, hns, hp => by
    have := mapOpt_nil hm; subst this
    exact hp _ _ _ _ rfl .normal a w ι (Later.refl H ι) hw hf hd rfl
  | o :: l, is, k, T, D, H, ι, a, w, hk, hm, hf, hd, hw, hns, hp => by
    obtain ⟨i, is', hi, hm', rfl⟩ := mapOpt_cons hm
    have hk' : ops.toList.drop (k + 1) = l := by
      rw [← List.drop_drop, hk]; rfl
    have ho : ops[k]? = some o := by
      have : (ops.toList.drop k)[0]? = some o := by rw [hk]; rfl
      simpa using this
    have ih := aops_ok hb hcalls hl l is' (k + 1)
    rw [List.length_cons, List.range'_succ, wpOps_cons]
    unfold wpOp
    simp only [ho]
    have hc := hi
    unfold cInst at hc
    split at hc
    case h_2 => exact absurd hc (by simp)
    rename_i op d g h1 h2 h3
    simp at hc
    have hgd : i.guard = g := by rw [← hc]
    have hds : i.dst = d := by rw [← hc]
    have hcons : aops W0f callf (i :: is') T D H = (match wantedA T i.guard with
      | some true => nextA (runA W0f callf T H i.run) i.dst T D (aops W0f callf is') H
      | some false => aops W0f callf is' (putT T i.dst .undef) D H
      | none => .stuck) := rfl
    rw [hcons] at hns hp
    cases hwt : wantedA T i.guard with
    | none => rw [hwt] at hns; exact absurd rfl hns
    | some b =>
      rw [hwt] at hns hp
      have hwant := wanted_ok (ops := ops) h3 hf (hgd ▸ hwt)
      rw [hwant]
      cases b with
      | false =>
        simp only [Bool.false_eq_true, if_false]
        exact ih _ D H ι _ w hk' hm' (hf.put (hds ▸ h2) getT_undef) (by cases o.dst <;> exact hd) hw hns hp
      | true =>
        simp only [if_true]
        simp only at hns hp
        refine inst_ok hi hf hw hb hcalls hl (fun e => by rw [e] at hns; exact hns rfl) ?_ ?_ ?_
        · intro v H' ι' v' w' e hlt hw' hv
          rw [e] at hns hp
          exact ih _ D H' ι' _ w' hk' hm' ((hf.mono hlt.le).put (hds ▸ h2) hv) (by cases o.dst <;> exact hd.mono hlt.le) hw' hns (hp.later hlt)
        · intro v H' ι' v' w' e hlt hw' hv
          rw [e] at hns hp
          exact hp _ _ _ _ rfl _ a w' ι' hlt hw' (hf.mono hlt.le) (hd.mono hlt.le) ⟨v', rfl, hv⟩
        · intro df df' e hdf
          rw [e] at hns hp
          refine ih _ (df :: D) H ι _ w hk' hm' ?_ ?_ hw hns hp
          · exact FRel.put (a := { a with defers := df' :: a.defers }) ⟨hf.size, hf.val⟩ (hds ▸ h2) getT_undef
          · have : ({ a with defers := df' :: a.defers }.put o.dst undef).defers = df' :: a.defers := by cases o.dst <;> rfl
            rw [this]
            exact ⟨df', a.defers, rfl, hdf, hd⟩

theorem seg_ok {id : Nat} {is : List AInst} (hb : BRel B W0f W0) (hcalls : CallsOK P B W0 callf) (hl : Outs Q) (hm : mapOpt (cInst P nt ops.toList) ops.toList = some is)
    (hf : FRel B ι nt T a) (hd : DRel B ι D a.defers) (hw : WRel B W0 H ι w) (hns : aops W0f callf is T D H ≠ .stuck) (hp : Post B W0 nt H ι (aops W0f callf is T D H) Q) :
    (Code.region id ops false).wp P Q a w := by
  refine wp_region ?_
  have := aops_ok hb hcalls hl ops.toList is 0 T D H ι a w (by simp) hm hf hd hw hns hp
  rw [List.range_eq_range']
  simpa using this

end Am

namespace Am
open Go

theorem blkbeq {a b : ABlk} (h : a.beq b = true) : a = b := by
  cases a <;> cases b <;> simp [ABlk.beq] at h ⊢ <;> first | exact h | exact Nat.eq_of_beq_eq_true h
theorem addrbeq {a b : AAddr} (h : a.beq b = true) : a = b := by
  obtain ⟨x, n⟩ := a
  obtain ⟨y, m⟩ := b
  simp only [AAddr.beq, Bool.and_eq_true] at h
  rw [blkbeq h.1, Nat.eq_of_beq_eq_true h.2]
theorem ceq_eq {a b : ACap} (h : ceq a b = true) : a = b := by
  cases a <;> cases b <;> simp only [ceq] at h <;> first | (rw [Nat.eq_of_beq_eq_true h]; done) | exact absurd h (by simp)

mutual
theorem aeq_eq : ∀ (a b : AVal), aeq a b = true → a = b
  | .any, b, h => by cases b <;> first | rfl | (simp [aeq] at h; done)
  | .bool x, b, h => by cases b <;> first | (simp [aeq] at h; done) | (simp [aeq] at h; rw [h])
  | .int k x, b, h => by
    cases b <;> first | (simp [aeq] at h; done) | skip
    simp only [aeq, Bool.and_eq_true, iEq_iff, beq_iff_eq] at h
    rw [kbeq_eq h.1, h.2]
  | .float k x, b, h => by
    cases b <;> first | (cases k <;> simp [aeq] at h; done) | skip
    rename_i k' y
    cases k <;> cases k' <;> first | (simp [aeq] at h; done) | skip
    all_goals
      simp only [aeq] at h
      rw [Nat.eq_of_beq_eq_true h]
  | .str x, b, h => by
    cases b <;> first | (simp [aeq] at h; done) | skip
    simp only [aeq, bytesEq_iff, decide_eq_true_eq] at h
    rw [h]
  | .ptr none, b, h => by
    cases b <;> first | (simp [aeq] at h; done) | skip
    rename_i q; cases q <;> first | rfl | (simp [aeq] at h; done)
  | .ptr (some x), b, h => by
    cases b <;> first | (simp [aeq] at h; done) | skip
    rename_i q; cases q <;> first | (simp [aeq] at h; done) | (simp only [aeq] at h; rw [addrbeq h])
  | .slice none l c, b, h => by
    cases b <;> first | (simp [aeq] at h; done) | skip
    rename_i q l' c'; cases q <;> first | (simp [aeq] at h; done) | (simp only [aeq, Bool.and_eq_true] at h; rw [Nat.eq_of_beq_eq_true h.1, ceq_eq h.2])
  | .slice (some x) l c, b, h => by
    cases b <;> first | (simp [aeq] at h; done) | skip
    rename_i q l' c'; cases q <;> first | (simp [aeq] at h; done) | (simp only [aeq, Bool.and_eq_true] at h; rw [addrbeq h.1, Nat.eq_of_beq_eq_true h.2.1, ceq_eq h.2.2])
  | .map none, b, h => by
    cases b <;> first | (simp [aeq] at h; done) | skip
    rename_i q; cases q <;> first | rfl | (simp [aeq] at h; done)
  | .map (some x), b, h => by
    cases b <;> first | (simp [aeq] at h; done) | skip
    rename_i q; cases q <;> first | (simp [aeq] at h; done) | (simp only [aeq] at h; rw [Nat.eq_of_beq_eq_true h])
  | .func fn f c, b, h => by
    cases b <;> first | (cases fn <;> simp [aeq] at h; done) | skip
    rename_i gn g d
    cases fn <;> cases gn <;> first | (simp [aeq] at h; done) | skip
    simp only [aeq, Bool.and_eq_true] at h
    rw [Nat.eq_of_beq_eq_true h.1.1, leq_eq f g h.1.2, leq_eq c d h.2]
  | .nilFunc, b, h => by cases b <;> first | rfl | (simp [aeq] at h; done)
  | .iface t v, b, h => by
    cases b <;> first | (simp [aeq] at h; done) | skip
    rename_i u x
    simp only [aeq, Bool.and_eq_true] at h
    rw [Nat.eq_of_beq_eq_true h.1, aeq_eq v x h.2]
  | .nilIface, b, h => by cases b <;> first | rfl | (simp [aeq] at h; done)
  | .agg x, b, h => by
    cases b <;> first | (simp [aeq] at h; done) | skip
    rename_i y
    simp only [aeq] at h
    rw [leq_eq x y h]
  | .tuple x, b, h => by
    cases b <;> first | (simp [aeq] at h; done) | skip
    rename_i y
    simp only [aeq] at h
    rw [leq_eq x y h]
theorem leq_eq : ∀ (a b : List AVal), leq a b = true → a = b
  | [], b, h => by cases b <;> first | rfl | (simp [leq] at h; done)
  | x :: xs, b, h => by
    cases b with
    | nil => simp [leq] at h
    | cons y ys =>
      simp only [leq, Bool.and_eq_true] at h
      rw [aeq_eq x y h.1, leq_eq xs ys h.2]
end

variable {P : Program} {B nt : Nat} {ι ι' : Iota} {T T' : Tmps} {a a' : Act} {W0 w w' : World} {W0f : BaseF} {H H' : AHeap} {callf : CallF}
  {ops : Array Oper} {Q : Exit → Act → World → Prop} {K : Act → World → Prop} {D D' : List ADef}

theorem recheck_spec {mask : Nat} : ∀ {seen : List (DInst × AVal)}, recheck W0f mask T H seen = true → ∀ x v, (x, v) ∈ seen → mask.testBit x.at_ = false → againA W0f T H v x.ins.run = true
  | [], _, _, _, h, _ => absurd h (by simp)
  | (y, u) :: r, hr, x, v, h, hm => by
    simp only [recheck, Bool.and_eq_true, Bool.or_eq_true] at hr
    rcases List.mem_cons.1 h with e | e
    · simp only [Prod.mk.injEq] at e
      obtain ⟨rfl, rfl⟩ := e
      rcases hr.1 with q | q
      · rw [hm] at q; simp at q
      · exact q
    · exact recheck_spec hr.2 x v e hm

theorem again_read {f : BaseF → Tmps → AHeap → Option AVal} {v : AVal} (h : againA W0f T H v (.read f) = true) : f W0f T H = some v := by
  simp only [againA] at h
  cases e : f W0f T H with
  | none => rw [e] at h; simp [sameV] at h
  | some u => rw [e] at h; simp only [sameV] at h; rw [aeq_eq v u h]

open Classical in
theorem getT_anyAll (p : Path) : ∀ (ds : List Path) (T : Tmps), getT (anyAll T ds) p = if p ∈ ds then .any else getT T p
  | [], T => by simp [anyAll]
  | d :: ds, T => by
    simp only [anyAll, getT_anyAll p ds, List.mem_cons]
    by_cases h1 : p ∈ ds
    · simp [h1]
    · by_cases h2 : p = d
      · subst h2; simp [h1, getT_setT_same]
      · simp [h1, h2, getT_setT_ne T _ h2]

theorem getT_any {p : Path} {ds : List Path} (h : p ∈ ds) : getT (anyAll T ds) p = .any := by classical rw [getT_anyAll]; simp [h]
theorem getT_nany {p : Path} {ds : List Path} (h : p ∉ ds) : getT (anyAll T ds) p = getT T p := by classical rw [getT_anyAll]; simp [h]

theorem FRel.weaken (h : FRel B ι nt T a) (hT : ∀ p, getT T' p = .any ∨ getT T' p = getT T p) : FRel B ι nt T' a :=
  ⟨h.size, fun i hi => by
    rcases hT (.of i) with e | e
    · rw [e]; simp [vrel]
    · rw [e]; exact h.val i hi⟩

theorem cInst_inv {os : List Oper} {o : Oper} {i : AInst} (h : cInst P nt os o = some i) :
    ∃ op d g, cOp P nt os o.op = some op ∧ cDst nt o.dst = some d ∧ cGuard nt os o.guard = some g ∧ i = ⟨op.run, d, g, guardSlots g ++ op.slots⟩ := by
  unfold cInst at h
  split at h
  case h_2 => exact absurd h (by simp)
  rename_i op d g h1 h2 h3
  simp at h
  exact ⟨op, d, g, h1, h2, h3, h.symm⟩

theorem inst_same {os : List Oper} {o : Oper} {i : AInst} (h : cInst P nt os o = some i) (hs : Agr T T' i.slots) : wantedA T i.guard = wantedA T' i.guard ∧ SameRun T T' i.run := by
  obtain ⟨op, d, g, h1, h2, h3, rfl⟩ := cInst_inv h
  rw [agr_app] at hs
  refine ⟨?_, cOp_slots h1 hs.2⟩
  cases g with
  | none => rfl
  | some p =>
    obtain ⟨p, want⟩ := p
    have : getT T p = getT T' p := hs.1 p (by simp [guardSlots])
    simp only [wantedA, this]

theorem mem_dstsOf {d : Path} : ∀ {l : List DInst}, d ∈ dstsOf l ↔ ∃ x ∈ l, x.ins.dst = some d
  | [] => by simp [dstsOf]
  | x :: xs => by
    simp only [dstsOf]
    cases h : x.ins.dst with
    | none => simp [h, mem_dstsOf (l := xs)]
    | some e => simp [h, mem_dstsOf (l := xs), eq_comm]

theorem getT_put (T : Tmps) (d : Option Path) (v : AVal) (p : Path) : getT (putT T d v) p = v ∧ d = some p ∨ getT (putT T d v) p = getT T p ∧ d ≠ some p := by
  cases d with
  | none => exact .inr ⟨rfl, by simp⟩
  | some d =>
    by_cases e : p = d
    · subst e; exact .inl ⟨getT_setT_same T p v, rfl⟩
    · exact .inr ⟨getT_setT_ne T v e, fun q => e (by simpa using q.symm)⟩

theorem agr_put {d : Option Path} {v : AVal} {s : List Path} (h : ∀ p, d = some p → p ∉ s) : Agr T (putT T d v) s := fun p hp => by
  rcases getT_put T d v p with ⟨_, e⟩ | ⟨e, _⟩
  · exact absurd hp (h p e)
  · exact e.symm

theorem pairwise_or {α : Type} {R : α → α → Prop} : ∀ {l : List α}, l.Pairwise R → ∀ x ∈ l, ∀ y ∈ l, x = y ∨ R x y ∨ R y x
  | [], _, x, hx, _, _ => absurd hx (by simp)
  | z :: zs, h, x, hx, y, hy => by
    rw [List.pairwise_cons] at h
    rcases List.mem_cons.1 hx with e | hx'
    · rcases List.mem_cons.1 hy with e' | hy'
      · exact .inl (e.trans e'.symm)
      · exact .inr (.inl (e ▸ h.1 y hy'))
    · rcases List.mem_cons.1 hy with e' | hy'
      · exact .inr (.inr (e' ▸ h.1 x hx'))
      · exact pairwise_or h.2 x hx' y hy'

structure PairOK (x y : DInst) : Prop where
  at_ : x.at_ ≠ y.at_
  apart : ∀ d, x.ins.dst = some d → y.ins.dst ≠ some d
  xy : x.mask.testBit y.at_ = false → ∀ d, y.ins.dst = some d → d ∉ x.ins.slots
  yx : y.mask.testBit x.at_ = false → ∀ d, x.ins.dst = some d → d ∉ y.ins.slots
  chain : x.ins.run.isChain = true → y.mask.testBit x.at_ = true
  back : x.mask.testBit y.at_ = false

theorem readOK_spec {x y : DInst} (h : readOK x y = true) (hm : x.mask.testBit y.at_ = false) (d : Path) (hd : y.ins.dst = some d) : d ∉ x.ins.slots := by
  simp only [readOK, hd, hm, Bool.false_or, Bool.not_eq_true'] at h
  intro hmem
  have : (x.ins.slots.any fun s => s.beq d) = true := List.any_eq_true.2 ⟨d, hmem, (Path.beq_iff d d).2 rfl⟩
  rw [this] at h
  simp at h

theorem pairOK_spec {x y : DInst} (h : pairOK x y = true) : PairOK x y := by
  simp only [pairOK, Bool.and_eq_true, Bool.or_eq_true, Bool.not_eq_true'] at h
  obtain ⟨⟨⟨⟨⟨h1, h2⟩, h3⟩, h4⟩, h5⟩, h6⟩ := h
  refine ⟨fun e => ?_, fun d hd hd' => ?_, readOK_spec h3, readOK_spec h4, fun hc => ?_, h6⟩
  · rw [e] at h1; simp at h1
  · simp only [dstApart, hd, hd', (Path.beq_iff d d).2 rfl] at h2; simp at h2
  · rcases h5 with q | q
    · rw [hc] at q; simp at q
    · exact q

theorem pairsOK_spec : ∀ {l : List DInst}, pairsOK l = true → l.Pairwise PairOK
  | [], _ => .nil
  | x :: xs, h => by
    simp only [pairsOK, Bool.and_eq_true, List.all_eq_true] at h
    exact List.pairwise_cons.2 ⟨fun y hy => pairOK_spec (h.1 y hy), pairsOK_spec h.2⟩

end Am

namespace Am
open Go

variable {P : Program} {B nt : Nat} {ι ι' : Iota} {T T' : Tmps} {a a' : Act} {W0 w w' : World} {W0f : BaseF} {H H' : AHeap} {callf : CallF}
  {ops : Array Oper} {Q : Exit → Act → World → Prop} {K : Act → World → Prop} {D D' : List ADef}

/-- it ran on the abstract side, not yet on the other -/
structure LE where
  x : DInst
  v : AVal
  id : Option Nat

def LateRun (W0f : BaseF) (base : Nat) (T : Tmps) (H : AHeap) (ι : Iota) (v : AVal) (id : Option Nat) : ARun → Prop
  | .pure f => f T = some v
  | .read f => f W0f T H = some v
  | .alloc f => ∃ i o mk, id = some i ∧ f T = some (o, mk) ∧ v = mk i ∧ H.get i = some o ∧ ι i = none ∧ base ≤ i ∧ i < H.next
  | _ => False

def LateOK (W0f : BaseF) (base : Nat) (T : Tmps) (H : AHeap) (ι : Iota) (e : LE) : Prop :=
  (wantedA T e.x.ins.guard = some false ∧ e.v = .undef) ∨ (wantedA T e.x.ins.guard = some true ∧ LateRun W0f base T H ι e.v e.id e.x.ins.run)

structure Info (P : Program) (ops : Array Oper) (nt : Nat) (dsts : List Path) (x : DInst) : Prop where
  lt : x.at_ < ops.size
  own : ∀ d, x.ins.dst = some d → d ∉ x.ins.slots
  self : x.mask.testBit x.at_ = false
  small : ∀ j, x.mask.testBit j = true → j < ops.size
  comp : ∃ o, ops[x.at_]? = some o ∧ cInst P nt ops.toList o = some x.ins
  mask : (masksFrom ops.toList [])[x.at_]? = some x.mask
  dst : ∀ d, x.ins.dst = some d → d ∈ dsts

def lateX (l : List LE) : List DInst := l.map (·.x)

structure DInv (P : Program) (ops : Array Oper) (B nt : Nat) (W0 : World) (W0f : BaseF) (callf : CallF) (dsts : List Path) (H0 : AHeap) (ι0 : Iota) (D : List ADef) (Q : Exit → Act → World → Prop)
    (late : List LE) (rest : List DInst) (seen : List (DInst × AVal)) (T : Tmps) (H : AHeap) (ι : Iota) (a : Act) (w : World) (listed : Array Bool) : Prop where
  pw : (lateX late ++ rest).Pairwise PairOK
  info : ∀ x ∈ lateX late ++ rest, Info P ops nt dsts x
  sz : listed.size = ops.size
  unl : ∀ x ∈ lateX late ++ rest, listed.getD x.at_ true = false
  unlof : ∀ i, i < ops.size → listed.getD i true = false → ∃ x ∈ lateX late ++ rest, x.at_ = i
  closed : ∀ i m, listed.getD i false = true → (masksFrom ops.toList [])[i]? = some m → ∀ j, m.testBit j = true → listed.getD j false = true
  frame : FRel B ι nt (anyAll T (dstsOf (lateX late))) a
  vals : ∀ e ∈ late, ∀ d, e.x.ins.dst = some d → getT T d = e.v
  lateok : ∀ e ∈ late, LateOK W0f H0.next T H ι e
  ids : late.Pairwise fun e e' => ∀ i, e.id = some i → e'.id ≠ some i
  idlt : ∀ e ∈ late, ∀ i, e.id = some i → i < H.next
  inseen : ∀ e ∈ late, wantedA T e.x.ins.guard = some true → (e.x, e.v) ∈ seen
  later : Later H0 ι0 H ι
  world : WRel B W0 H ι w
  defs : DRel B ι0 D a.defers
  run : adrw W0f callf dsts rest seen T D H ≠ .stuck
  post : Post B W0 nt H0 ι0 (adrw W0f callf dsts rest seen T D H) Q

variable {dsts : List Path} {H0 : AHeap} {ι0 : Iota} {late : List LE} {rest : List DInst} {seen : List (DInst × AVal)} {listed : Array Bool} {x : DInst}

theorem Info.same (h : Info P ops nt dsts x) (hs : Agr T T' x.ins.slots) : wantedA T x.ins.guard = wantedA T' x.ins.guard ∧ SameRun T T' x.ins.run := by
  obtain ⟨o, _, hc⟩ := h.comp
  exact inst_same hc hs

theorem LateOK.slots {e : LE} {base : Nat} (h : LateOK W0f base T H ι e) (hi : Info P ops nt dsts e.x) (hs : Agr T T' e.x.ins.slots) : LateOK W0f base T' H ι e := by
  obtain ⟨h1, h2⟩ := hi.same hs
  unfold LateOK at *
  rw [← h1]
  rcases h with h | ⟨hw, h⟩
  · exact .inl h
  · refine .inr ⟨hw, ?_⟩
    cases hr : e.x.ins.run with
    | pure f => rw [hr] at h h2; simp only [LateRun, SameRun] at *; rw [← h2]; exact h
    | read f => rw [hr] at h h2; simp only [LateRun, SameRun] at *; rw [← h2]; exact h
    | alloc f => rw [hr] at h h2; simp only [LateRun, SameRun] at *; rw [← h2]; exact h
    | chain f => rw [hr] at h; exact h.elim
    | recover => rw [hr] at h; exact h.elim

/-- the abstract side goes on: what stands first does not change memory -/
theorem DInv.more (h : DInv P ops B nt W0 W0f callf dsts H0 ι0 D Q late (x :: rest) seen T H ι a w listed) (hx : x.ins.run.isChain = false) :
    ∃ e : LE, e.x = x ∧ ∃ seen' T' H', DInv P ops B nt W0 W0f callf dsts H0 ι0 D Q (late ++ [e]) rest seen' T' H' ι a w listed := by
  have hxi : Info P ops nt dsts x := h.info x (by simp)
  have hpx : ∀ e ∈ late, PairOK e.x x := fun e he => (List.pairwise_append.1 h.pw).2.2 e.x (List.mem_map_of_mem he) x (by simp)
  have heq : ∀ e : LE, e.x = x → lateX (late ++ [e]) ++ rest = lateX late ++ x :: rest := fun e he => by simp [lateX, he]
  -- how T changes
  have hagr : ∀ v, ∀ e ∈ late, Agr T (putT T x.ins.dst v) e.x.ins.slots := fun v e he => agr_put ((hpx e he).xy (hpx e he).back)
  have hown : ∀ v, Agr T (putT T x.ins.dst v) x.ins.slots := fun v => agr_put hxi.own
  have mk : ∀ (v : AVal) (id : Option Nat) (seen' : List (DInst × AVal)) (H' : AHeap), (∀ q ∈ seen, q ∈ seen') → (wantedA T x.ins.guard = some true → (x, v) ∈ seen') → Later H0 ι0 H' ι → WRel B W0 H' ι w → H.next ≤ H'.next →
      (∀ i, id = some i → H.next ≤ i ∧ i < H'.next) →
      (∀ e ∈ late, LateOK W0f H0.next T H' ι e) → LateOK W0f H0.next T H' ι ⟨x, v, id⟩ →
      adrw W0f callf dsts (x :: rest) seen T D H = adrw W0f callf dsts rest seen' (putT T x.ins.dst v) D H' →
      ∃ e : LE, e.x = x ∧ ∃ seen' T' H', DInv P ops B nt W0 W0f callf dsts H0 ι0 D Q (late ++ [e]) rest seen' T' H' ι a w listed := by
    intro v id seen' H' hss hsx hlt hw hnx hid hlate hnew hrun
    refine ⟨⟨x, v, id⟩, rfl, seen', putT T x.ins.dst v, H', ?_⟩
    have hq := heq ⟨x, v, id⟩ rfl
    refine ⟨by rw [hq]; exact h.pw, by rw [hq]; exact h.info, h.sz, by rw [hq]; exact h.unl, by rw [hq]; exact h.unlof, h.closed, ?_, ?_, ?_, ?_, ?_, ?_, hlt, hw, h.defs, by rw [← hrun]; exact h.run, by rw [← hrun]; exact h.post⟩
    · refine h.frame.weaken fun p => ?_
      by_cases hp : p ∈ dstsOf (lateX (late ++ [⟨x, v, id⟩]))
      · exact .inl (getT_any hp)
      · have h1 : p ∉ dstsOf (lateX late) := fun q => hp (by rw [mem_dstsOf] at q ⊢; obtain ⟨y, hy, hd⟩ := q; exact ⟨y, by simp [lateX] at hy ⊢; exact .inl hy, hd⟩)
        refine .inr ?_
        rw [getT_nany hp, getT_nany h1]
        rcases getT_put T x.ins.dst v p with ⟨_, q⟩ | ⟨q, _⟩
        · exact absurd (mem_dstsOf.2 ⟨x, by simp [lateX], q⟩) hp
        · exact q
    · intro e he d hd
      rcases List.mem_append.1 he with he | he
      · rw [← h.vals e he d hd]
        rcases getT_put T x.ins.dst v d with ⟨_, q⟩ | ⟨q, _⟩
        · exact absurd q ((hpx e he).apart d hd)
        · exact q
      · simp at he; subst he
        rcases getT_put T x.ins.dst v d with ⟨q, _⟩ | ⟨_, q⟩
        · exact q
        · exact absurd hd q
    · intro e he
      rcases List.mem_append.1 he with he | he
      · exact (hlate e he).slots (h.info e.x (List.mem_append_left _ (List.mem_map_of_mem he))) (hagr v e he)
      · simp at he; subst he
        exact hnew.slots hxi (hown v)
    · refine List.pairwise_append.2 ⟨h.ids, by simp, fun e he e' he' i hi => ?_⟩
      simp at he'; subst he'
      intro q
      have := h.idlt e he i hi
      have := (hid i q).1
      omega
    · intro e he i hi
      rcases List.mem_append.1 he with he | he
      · have := h.idlt e he i hi; omega
      · simp at he; subst he; exact (hid i hi).2
    · intro e he hwt
      rcases List.mem_append.1 he with he | he
      · refine hss _ (h.inseen e he ?_)
        rw [((h.info e.x (List.mem_append_left _ (List.mem_map_of_mem he))).same (hagr v e he)).1]
        exact hwt
      · simp at he; subst he
        refine hsx ?_
        rw [(hxi.same (hown v)).1]
        exact hwt
  have hcons : adrw W0f callf dsts (x :: rest) seen T D H = (match wantedA T x.ins.guard with
      | some true => nextD (runA W0f callf T H x.ins.run) x T D seen dsts W0f (adrw W0f callf dsts rest)
      | some false => adrw W0f callf dsts rest seen (putT T x.ins.dst .undef) D H
      | none => .stuck) := rfl
  have hrun := h.run
  rw [hcons] at hrun
  cases hwt : wantedA T x.ins.guard with
  | none => rw [hwt] at hrun; exact absurd rfl hrun
  | some b =>
    rw [hwt] at hrun hcons
    cases b with
    | false =>
      exact mk .undef none seen H (fun _ q => q) (fun q => by rw [hwt] at q; simp at q) h.later h.world (Nat.le_refl _) (fun _ q => by simp at q) h.lateok (.inl ⟨hwt, rfl⟩) hcons
    | true =>
      simp only at hrun hcons
      cases hr : x.ins.run with
      | chain f => rw [hr] at hx; simp [ARun.isChain] at hx
      | recover => rw [hr] at hx; simp [ARun.isChain] at hx
      | pure f =>
        rw [hr] at hrun hcons
        simp only [runA] at hrun hcons
        cases hf : f T with
        | none => rw [hf] at hrun; exact absurd rfl hrun
        | some v =>
          rw [hf] at hcons
          refine mk v none ((x, v) :: seen) H (fun _ q => List.mem_cons_of_mem _ q) (fun _ => List.mem_cons_self ..) h.later h.world (Nat.le_refl _) (fun _ q => by simp at q) h.lateok (.inr ⟨hwt, by rw [hr]; exact hf⟩) ?_
          rw [hcons]
          simp [pv, nextD, hr, ARun.isChain, ARun.isAlloc]
      | read f =>
        rw [hr] at hrun hcons
        simp only [runA] at hrun hcons
        cases hf : f W0f T H with
        | none => rw [hf] at hrun; exact absurd rfl hrun
        | some v =>
          rw [hf] at hcons
          refine mk v none ((x, v) :: seen) H (fun _ q => List.mem_cons_of_mem _ q) (fun _ => List.mem_cons_self ..) h.later h.world (Nat.le_refl _) (fun _ q => by simp at q) h.lateok (.inr ⟨hwt, by rw [hr]; exact hf⟩) ?_
          rw [hcons]
          simp [pv, nextD, hr, ARun.isChain, ARun.isAlloc]
      | alloc f =>
        rw [hr] at hrun hcons
        simp only [runA] at hrun hcons
        cases hf : f T with
        | none => rw [hf] at hrun; exact absurd rfl hrun
        | some q =>
          obtain ⟨o, mkv⟩ := q
          rw [hf] at hrun hcons
          simp only [allocA, nextD, hr, ARun.isChain, ARun.isAlloc, cond_false, Bool.true_and] at hrun hcons
          cases hck : recheck W0f 0 T (H.new o) seen with
          | false => rw [hck] at hrun; exact absurd rfl hrun
          | true =>
            rw [hck] at hcons
            have hn : ι H.next = none := h.world.none_next (Nat.le_refl _)
            refine mk (mkv H.next) (some H.next) ((x, mkv H.next) :: seen) (H.new o) (fun _ q => List.mem_cons_of_mem _ q) (fun _ => List.mem_cons_self ..) ?_ (h.world.grow o) (by simp)
              (fun i q => by simp at q; subst q; simp) ?_ (.inr ⟨hwt, ?_⟩) (by rw [hcons]; rfl)
            · refine ⟨h.later.le, h.later.new, by have := h.later.next; simp; omega, fun i hi hi' => ?_⟩
              rw [AHeap.get_new, if_neg (by have := h.later.next; omega)]
              exact h.later.keep i hi hi'
            · intro e he
              rcases h.lateok e he with q | ⟨hw', q⟩
              · exact .inl q
              · refine .inr ⟨hw', ?_⟩
                have hsn := h.inseen e he hw'
                cases hre : e.x.ins.run with
                | pure g => rw [hre] at q; exact q
                | read g =>
                  have := recheck_spec hck e.x e.v hsn (by simp)
                  rw [hre] at this
                  exact again_read this
                | alloc g =>
                  rw [hre] at q
                  obtain ⟨i, o', mk', h1, h2, h3, h4, h5, h6, h7⟩ := q
                  exact ⟨i, o', mk', h1, h2, h3, by rw [AHeap.get_new, if_neg (by omega)]; exact h4, h5, h6, by simp; omega⟩
                | chain g => rw [hre] at q; exact q.elim
                | recover => rw [hre] at q; exact q.elim
            · rw [hr]
              exact ⟨H.next, o, mkv, rfl, hf, rfl, by rw [AHeap.get_new, if_pos rfl], hn, h.later.next, by simp⟩

end Am
