/- The abstract machine: trees as maps; what an abstract value says of a value of the model; what an abstract heap says of a world. -/
import Derived.Test.YtbhmnhgljlmafaaGreatMa
import Derived.Calls
import Derived.Laws.Sem
import Derived.Laws.World
import Derived.Laws.Cells
import Derived.Laws.Entries
import Derived.ChangeKeysEq
import Derived.Laws.Strings
import Derived.Laws.StructEq
set_option linter.all false

namespace Am
open Go

namespace Tree
variable {α : Type}

theorem get_leaf (n : Nat) : (leaf : Tree α).get n = none := by cases n <;> rfl

theorem beq_eq (a b : Nat) : Nat.beq a b = decide (a = b) := by
  by_cases h : a = b
  · subst h; simp
  · rw [decide_eq_false h]; exact Bool.eq_false_iff.2 fun e => h (Nat.eq_of_beq_eq_true e)

theorem get_eq (t : Tree α) (n : Nat) : t.get n = if n = 0 then t.val else if n % 2 = 1 then t.left.get (n / 2) else t.right.get (n / 2 - 1) := by
  cases t with
  | leaf => simp [get_leaf, val, left, right]
  | node l v r =>
    simp only [get, val, left, right, beq_eq, show Nat.mod n 2 = n % 2 from rfl, show Nat.div n 2 = n / 2 from rfl]
    by_cases h : n = 0 <;> by_cases h' : n % 2 = 1 <;> simp [h, h', Nat.pred_eq_sub_one]

theorem setF_eq (v : Option α) (f : Nat) (t : Tree α) (n : Nat) : setF v (f + 1) t n =
    if n = 0 then .node t.left v t.right else if n % 2 = 1 then .node (setF v f t.left (n / 2)) t.val t.right else .node t.left t.val (setF v f t.right (n / 2 - 1)) := by
  cases t with
  | leaf =>
    simp only [setF, val, left, right, beq_eq, show Nat.mod n 2 = n % 2 from rfl, show Nat.div n 2 = n / 2 from rfl]
    by_cases h : n = 0 <;> by_cases h' : n % 2 = 1 <;> simp [h, h', Nat.pred_eq_sub_one]
  | node l x r =>
    simp only [setF, val, left, right, beq_eq, show Nat.mod n 2 = n % 2 from rfl, show Nat.div n 2 = n / 2 from rfl]
    by_cases h : n = 0 <;> by_cases h' : n % 2 = 1 <;> simp [h, h', Nat.pred_eq_sub_one]

theorem get_setF (v : Option α) : ∀ (f : Nat) (t : Tree α) (n m : Nat), n < f → (setF v f t n).get m = if m = n then v else t.get m := by
  intro f
  induction f with
  | zero => intro t n m h; omega
  | succ f ih =>
    intro t n m h
    rw [setF_eq, get_eq, get_eq t]
    by_cases hn : n = 0
    · subst hn
      simp only [if_true, val, left, right]
      split <;> rfl
    · rw [if_neg hn]
      by_cases hp : n % 2 = 1
      · rw [if_pos hp]
        simp only [val, left, right]
        by_cases hm : m = 0
        · subst hm; simp only [if_true]; rw [if_neg (by omega)]
        · rw [if_neg hm, if_neg hm]
          by_cases hq : m % 2 = 1
          · rw [if_pos hq, if_pos hq, ih _ _ _ (by omega)]
            by_cases e : m = n
            · rw [if_pos e, if_pos (by omega)]
            · rw [if_neg e, if_neg (by omega)]
          · rw [if_neg hq, if_neg hq, if_neg (by omega)]
      · rw [if_neg hp]
        simp only [val, left, right]
        by_cases hm : m = 0
        · subst hm; simp only [if_true]; rw [if_neg (by omega)]
        · rw [if_neg hm, if_neg hm]
          by_cases hq : m % 2 = 1
          · rw [if_pos hq, if_pos hq, if_neg (by omega)]
          · rw [if_neg hq, if_neg hq, ih _ _ _ (by omega)]
            by_cases e : m = n
            · rw [if_pos e, if_pos (by omega)]
            · rw [if_neg e, if_neg (by omega)]

theorem get_set (t : Tree α) (n m : Nat) (v : Option α) : (t.set n v).get m = if m = n then v else t.get m :=
  get_setF v (n + 1) t n m (by omega)
end Tree

theorem AHeap.get_set (H : AHeap) (i j : Nat) (o : Option AObj) : (H.set i o).get j = if j = i then o else H.get j := Tree.get_set _ _ _ _
theorem AHeap.get_new (H : AHeap) (j : Nat) (o : AObj) : (H.new o).get j = if j = H.next then some o else H.get j := Tree.get_set _ _ _ _
@[simp] theorem AHeap.next_set (H : AHeap) (i : Nat) (o : Option AObj) : (H.set i o).next = H.next := rfl
@[simp] theorem AHeap.next_new (H : AHeap) (o : AObj) : (H.new o).next = H.next + 1 := rfl
open Classical in
theorem Tree.getP_setP {α : Type} (v : Option α) : ∀ (p q : Path) (t : Tree α), (t.setP v p).getP q = if q = p then v else t.getP q
  | .here, .here, t => by simp; rfl
  | .here, .lft q, t => by simp; rfl
  | .here, .rgt q, t => by simp; rfl
  | .lft p, .here, t => by simp; rfl
  | .lft p, .lft q, t => by
    have h : (t.setP v (.lft p)).getP (.lft q) = (t.left.setP v p).getP q := rfl
    have h' : t.getP (.lft q) = t.left.getP q := rfl
    rw [h, h', getP_setP v p q]
    simp only [Path.lft.injEq]
  | .lft p, .rgt q, t => by simp; rfl
  | .rgt p, .here, t => by simp; rfl
  | .rgt p, .lft q, t => by simp; rfl
  | .rgt p, .rgt q, t => by
    have h : (t.setP v (.rgt p)).getP (.rgt q) = (t.right.setP v p).getP q := rfl
    have h' : t.getP (.rgt q) = t.right.getP q := rfl
    rw [h, h', getP_setP v p q]
    simp only [Path.rgt.injEq]

theorem getT_setT_same (T : Tmps) (p : Path) (v : AVal) : getT (setT T p v) p = v := by
  unfold getT setT
  rw [Tree.getP_setP, if_pos rfl]
  rfl

theorem getT_setT_ne (T : Tmps) {p q : Path} (v : AVal) (h : q ≠ p) : getT (setT T p v) q = getT T q := by
  unfold getT setT
  rw [Tree.getP_setP, if_neg h]

theorem Path.beq_iff : ∀ (p q : Path), p.beq q = true ↔ p = q
  | .here, .here => by simp [beq]
  | .here, .lft q => by simp [beq]
  | .here, .rgt q => by simp [beq]
  | .lft p, .here => by simp [beq]
  | .lft p, .lft q => by simp [beq, beq_iff p q]
  | .lft p, .rgt q => by simp [beq]
  | .rgt p, .here => by simp [beq]
  | .rgt p, .lft q => by simp [beq]
  | .rgt p, .rgt q => by simp [beq, beq_iff p q]

def Path.num : Path → Nat
  | .here => 0
  | .lft p => 2 * p.num + 1
  | .rgt p => 2 * p.num + 2

theorem Path.num_ofF : ∀ (f n : Nat), n ≤ f → (Path.ofF f n).num = n
  | 0, n, h => by have : n = 0 := by omega
                  subst this; rfl
  | f + 1, n, h => by
    unfold ofF
    by_cases h0 : n = 0
    · subst h0; rfl
    · have hb : Nat.beq n 0 = false := by rw [Tree.beq_eq]; simp [h0]
      rw [hb]; simp only [cond_false]
      by_cases hp : n % 2 = 1
      · have hq : Nat.beq (Nat.mod n 2) 1 = true := by rw [Tree.beq_eq, show Nat.mod n 2 = n % 2 from rfl]; simpa using hp
        rw [hq]; simp only [cond_true, num]
        rw [num_ofF f _ (by show n / 2 ≤ f; omega)]
        show 2 * (n / 2) + 1 = n
        omega
      · have hq : Nat.beq (Nat.mod n 2) 1 = false := by rw [Tree.beq_eq, show Nat.mod n 2 = n % 2 from rfl]; simpa using hp
        rw [hq]; simp only [cond_false, num]
        rw [num_ofF f _ (by show n / 2 - 1 ≤ f; omega)]
        show 2 * (n / 2 - 1) + 2 = n
        omega

theorem Path.of_inj {n m : Nat} (h : Path.of n = Path.of m) : n = m := by
  have := congrArg Path.num h
  rwa [Path.of, Path.of, num_ofF n n (by omega), num_ofF m m (by omega)] at this

/-! ## where an abstract block lies -/
structure Loc where
  blk : Nat
  sh : Nat
  tot : Nat

abbrev Iota := Nat → Option Loc

def Iota.le (ι ι' : Iota) : Prop := ∀ i L, ι i = some L → ι' i = some L

theorem Iota.le_refl (ι : Iota) : ι.le ι := fun _ _ h => h
theorem Iota.le_trans {ι ι' ι'' : Iota} (h : ι.le ι') (h' : ι'.le ι'') : ι.le ι'' := fun i L e => h' i L (h i L e)

def arel (B : Nat) (ι : Iota) : AAddr → Addr → Prop
  | ⟨.base b, o⟩, a => b < B ∧ a = ⟨b, o, none⟩
  | ⟨.loc i, o⟩, a => ∃ L, ι i = some L ∧ a = ⟨L.blk, L.sh + o, none⟩

def srel (B : Nat) (ι : Iota) : Option AAddr → Nat → ACap → Option Addr → Nat → Nat → Prop
  | none, l, c, a', l', c' => a' = none ∧ l' = 0 ∧ l = 0 ∧ c = .ex 0 ∧ c' = 0
  | some a, l, .ex c, a', l', c' => (∃ z, a' = some z ∧ (c ≠ 0 → arel B ι a z)) ∧ l' = l ∧ c' = c ∧ l ≤ c
  | some ⟨.base _, _⟩, _, .op _, _, _, _ => False
  | some ⟨.loc i, o⟩, l, .op e, a', l', c' => ∃ L o', ι i = some L ∧ a' = some ⟨L.blk, o', none⟩ ∧ l' = l ∧ l ≤ c' ∧ (l ≠ 0 → o' = L.sh + o) ∧ (c' = 0 ∨ o' + c' * e = L.tot)

mutual
def vrel (B : Nat) (ι : Iota) : AVal → Value → Prop
  | .any, _ => True
  | .bool b, v => v = .bool b
  | .int k n, v => v = .int k n
  | .float k b, v => v = .float k b
  | .str s, v => v = .string ⟨s.toArray⟩
  | .ptr none, v => v = .pointer none
  | .ptr (some a), v => ∃ a', v = .pointer (some a') ∧ arel B ι a a'
  | .slice a l c, v => ∃ a' l' c', v = .slice a' l' c' ∧ srel B ι a l c a' l' c'
  | .map none, v => v = .map none
  | .map (some i), v => ∃ L, ι i = some L ∧ v = .map (some L.blk)
  | .func fn f c, v => ∃ f' c', v = .func fn f' c' ∧ lrel B ι f f'.toList ∧ lrel B ι c c'.toList
  | .nilFunc, v => v = .nilFunc
  | .iface t x, v => ∃ x', v = .iface t x' ∧ vrel B ι x x'
  | .nilIface, v => v = .nilIface
  | .agg cs, v => ∃ cs', v = .agg cs' ∧ lrel B ι cs cs'.toList
  | .tuple vs, v => ∃ vs', v = .tuple vs' ∧ lrel B ι vs vs'.toList
def lrel (B : Nat) (ι : Iota) : List AVal → List Value → Prop
  | [], l => l = []
  | a :: as, l => ∃ v vs, l = v :: vs ∧ vrel B ι a v ∧ lrel B ι as vs
end

variable {B : Nat} {ι ι' : Iota}

theorem arel_mono (h : ι.le ι') {a : AAddr} {a' : Addr} (r : arel B ι a a') : arel B ι' a a' := by
  obtain ⟨b, o⟩ := a
  cases b with
  | base b => exact r
  | loc i => obtain ⟨L, e, r⟩ := r; exact ⟨L, h _ _ e, r⟩

theorem srel_mono (h : ι.le ι') {a : Option AAddr} {l : Nat} {c : ACap} {a' : Option Addr} {l' c' : Nat} (r : srel B ι a l c a' l' c') : srel B ι' a l c a' l' c' := by
  cases a with
  | none => exact r
  | some a =>
    cases c with
    | ex c => obtain ⟨⟨z, e, r⟩, q⟩ := r; exact ⟨⟨z, e, fun hc => arel_mono h (r hc)⟩, q⟩
    | op e =>
      obtain ⟨b, o⟩ := a
      cases b with
      | base b => exact r.elim
      | loc i => obtain ⟨L, o', e, q⟩ := r; exact ⟨L, o', h _ _ e, q⟩

mutual
theorem vrel_mono (h : ι.le ι') : ∀ (a : AVal) (v : Value), vrel B ι a v → vrel B ι' a v
  | .any, _, _ => trivial
  | .bool _, _, r => r
  | .int _ _, _, r => r
  | .float _ _, _, r => r
  | .str _, _, r => r
  | .ptr none, _, r => r
  | .ptr (some _), _, ⟨a', e, r⟩ => ⟨a', e, arel_mono h r⟩
  | .slice _ _ _, _, ⟨a', l', c', e, r⟩ => ⟨a', l', c', e, srel_mono h r⟩
  | .map none, _, r => r
  | .map (some _), _, ⟨L, e, r⟩ => ⟨L, h _ _ e, r⟩
  | .func _ f c, _, ⟨f', c', e, r, r'⟩ => ⟨f', c', e, lrel_mono h f _ r, lrel_mono h c _ r'⟩
  | .nilFunc, _, r => r
  | .iface _ x, _, ⟨x', e, r⟩ => ⟨x', e, vrel_mono h x _ r⟩
  | .nilIface, _, r => r
  | .agg cs, _, ⟨cs', e, r⟩ => ⟨cs', e, lrel_mono h cs _ r⟩
  | .tuple vs, _, ⟨vs', e, r⟩ => ⟨vs', e, lrel_mono h vs _ r⟩
theorem lrel_mono (h : ι.le ι') : ∀ (as : List AVal) (vs : List Value), lrel B ι as vs → lrel B ι' as vs
  | [], _, r => r
  | a :: as, _, ⟨v, vs, e, r, r'⟩ => ⟨v, vs, e, vrel_mono h a v r, lrel_mono h as vs r'⟩
end

theorem lrel_nil {vs : List Value} : lrel B ι [] vs ↔ vs = [] := by simp [lrel]
theorem lrel_cons {a : AVal} {as : List AVal} {vs : List Value} : lrel B ι (a :: as) vs ↔ ∃ v ws, vs = v :: ws ∧ vrel B ι a v ∧ lrel B ι as ws := by simp [lrel]

theorem lrel_length : ∀ {as : List AVal} {vs : List Value}, lrel B ι as vs → vs.length = as.length
  | [], _, r => by rw [lrel_nil] at r; subst r; rfl
  | a :: as, _, r => by
    obtain ⟨v, ws, rfl, _, r'⟩ := lrel_cons.1 r
    simp [lrel_length r']

theorem lrel_append : ∀ {as bs : List AVal} {vs ws : List Value}, lrel B ι as vs → lrel B ι bs ws → lrel B ι (as ++ bs) (vs ++ ws)
  | [], _, _, _, r, r' => by rw [lrel_nil] at r; subst r; simpa using r'
  | a :: as, _, _, _, r, r' => by
    obtain ⟨v, ws', rfl, h, r''⟩ := lrel_cons.1 r
    exact lrel_cons.2 ⟨v, _, rfl, h, lrel_append r'' r'⟩

theorem lrel_get : ∀ {as : List AVal} {vs : List Value} {n : Nat} {a : AVal}, lrel B ι as vs → nthN n as = some a → ∃ v, vs[n]? = some v ∧ vrel B ι a v
  | [], _, n, _, _, h => by cases n <;> simp [nthN] at h
  | x :: as, _, 0, a, r, h => by
    obtain ⟨v, ws, rfl, hv, _⟩ := lrel_cons.1 r
    simp [nthN] at h; subst h
    exact ⟨v, rfl, hv⟩
  | x :: as, _, n + 1, a, r, h => by
    obtain ⟨v, ws, rfl, _, r'⟩ := lrel_cons.1 r
    simp only [nthN] at h
    obtain ⟨u, e, hu⟩ := lrel_get r' h
    exact ⟨u, by simpa using e, hu⟩

end Am

namespace Am
open Go

def erel (B : Nat) (ι : Iota) : List (AVal × AVal) → List MapEntry → Prop
  | [], l => l = []
  | (k, v) :: es, l => ∃ e r, l = e :: r ∧ vrel B ι k e.key ∧ vrel B ι v e.val ∧ erel B ι es r

def keysOK (es : List (AVal × AVal)) : Prop := (∀ e ∈ es, ∃ ki, keyIs ki e.1 = true) ∧ es.Pairwise fun a b => keyEq a.1 b.1 = some false

/-- the stamps of a map's entries: each below the map's own, no two alike -/
def bornOK (bs : List Nat) (clock : Nat) : Prop := (∀ b ∈ bs, b < clock) ∧ bs.Nodup

theorem bornOK_push {bs : List Nat} {clock : Nat} (h : bornOK bs clock) : bornOK (bs ++ [clock]) (clock + 1) := by
  refine ⟨fun b hb => ?_, ?_⟩
  · rcases List.mem_append.1 hb with q | q
    · have := h.1 b q; omega
    · simp at q; omega
  · rw [List.nodup_append]
    refine ⟨h.2, by simp, fun a ha b hb e => ?_⟩
    simp at hb
    have := h.1 a ha
    omega

theorem bornOK_del {b1 b2 : List Nat} {b clock : Nat} (h : bornOK (b1 ++ b :: b2) clock) : bornOK (b1 ++ b2) clock := by
  refine ⟨fun c hc => h.1 c (by rcases List.mem_append.1 hc with q | q <;> simp [q]), ?_⟩
  exact h.2.sublist (List.Sublist.append_left (List.sublist_cons_self ..) _)

def orel (B : Nat) (ι : Iota) (L : Loc) : AObj → Option Obj → Prop
  | .cells _ cs st, o => ∃ c ty' fr, o = some (.cells c ty' fr) ∧ c.size = L.tot ∧ L.sh + cs.length ≤ L.tot ∧
      (∀ j a, nthN j cs = some a → ∃ v, c[L.sh + j]? = some v ∧ vrel B ι a v) ∧ (fr = (0, 0) ∨ (st = true ∧ fr = (c.size, c.size + 1)))
  | .map es, o => ∃ ents clock es', o = some (.map ents clock) ∧ es'.Perm es ∧ erel B ι es' ents.toList ∧ keysOK es ∧ bornOK (ents.toList.map (·.born)) clock

/-- no cell is frozen -/
theorem unfrozen {st : Bool} {fr : Nat × Nat} {n : Nat} (h : fr = (0, 0) ∨ (st = true ∧ fr = (n, n + 1))) : ∀ k, k < n → ¬ (fr.1 ≤ k ∧ k < fr.2) := by
  intro k hk
  rcases h with rfl | ⟨_, rfl⟩ <;> simp <;> omega

variable {P : Program} {B : Nat} {ι ι' : Iota}

theorem erel_mono (h : ι.le ι') : ∀ (es : List (AVal × AVal)) (l : List MapEntry), erel B ι es l → erel B ι' es l
  | [], _, r => r
  | (_, _) :: es, _, ⟨e, r, h0, h1, h2, h3⟩ => ⟨e, r, h0, vrel_mono h _ _ h1, vrel_mono h _ _ h2, erel_mono h es r h3⟩

theorem orel_mono (h : ι.le ι') {L : Loc} {o : AObj} {o' : Option Obj} (r : orel B ι L o o') : orel B ι' L o o' := by
  cases o with
  | cells ty cs st =>
    obtain ⟨c, ty', fr, e, h1, h2, h3, h4⟩ := r
    exact ⟨c, ty', fr, e, h1, h2, fun j a hj => let ⟨v, hv, hr⟩ := h3 j a hj; ⟨v, hv, vrel_mono h _ _ hr⟩, h4⟩
  | map es =>
    obtain ⟨ents, clock, es', e, h1, h2, h3⟩ := r
    exact ⟨ents, clock, es', e, h1, erel_mono h _ _ h2, h3⟩

structure WRel (B : Nat) (W0 : World) (H : AHeap) (ι : Iota) (w : World) : Prop where
  size : B ≤ w.heap.size
  base : ∀ b, b < B → w.heap[b]? = W0.heap[b]?
  dom : ∀ i L, ι i = some L → i < H.next ∧ B ≤ L.blk ∧ L.blk < w.heap.size
  inj : ∀ i j L L', ι i = some L → ι j = some L' → H.get i ≠ none → H.get j ≠ none → L.blk = L'.blk → i = j
  obj : ∀ i L o, ι i = some L → H.get i = some o → orel B ι L o w.heap[L.blk]?
  io : w.os = W0.os ∧ w.output = W0.output

/-- the streams are as they were -/
def SameIO (w w' : World) : Prop := w'.os = w.os ∧ w'.output = w.output
theorem SameIO.refl (w : World) : SameIO w w := ⟨rfl, rfl⟩
theorem SameIO.trans {a b c : World} (h : SameIO a b) (h' : SameIO b c) : SameIO a c := ⟨h'.1.trans h.1, h'.2.trans h.2⟩

/-- what an abstract base says of the world in which the run began -/
def BRel (B : Nat) (W0f : BaseF) (W0 : World) : Prop :=
  ∀ b cs, W0f b = some cs → b < B ∧ ∃ c ty fr, W0.heap[b]? = some (.cells c ty fr) ∧ ∀ j a, nthN j cs = some a → ∃ v, c[j]? = some v ∧ vrel B (fun _ => none) a v

variable {W0 : World} {H H' : AHeap} {w w' : World}

theorem WRel.none_next (h : WRel B W0 H ι w) {i : Nat} (hi : H.next ≤ i) : ι i = none := by
  cases e : ι i with
  | none => rfl
  | some L => have := (h.dom i L e).1; omega

/-- the world's other parts do not matter -/
theorem WRel.io' (h : WRel B W0 H ι w) (s : SameIO w w') : w'.os = W0.os ∧ w'.output = W0.output := ⟨s.1.trans h.io.1, s.2.trans h.io.2⟩

theorem WRel.world (h : WRel B W0 H ι w) (e : w'.heap = w.heap) (s : SameIO w w') : WRel B W0 H ι w' :=
  ⟨e ▸ h.size, by rw [e]; exact h.base, by rw [e]; exact h.dom, h.inj, by rw [e]; exact h.obj, h.io' s⟩

theorem WRel.heap (h : WRel B W0 H ι w) (hn : H.next ≤ H'.next) (hg : ∀ i L, ι i = some L → H'.get i = H.get i ∨ H'.get i = none) : WRel B W0 H' ι w := by
  refine ⟨h.size, h.base, fun i L e => ?_, fun i j L L' e e' hi hj hb => ?_, fun i L o e ho => ?_, h.io⟩
  · have := h.dom i L e; exact ⟨by omega, this.2⟩
  · refine h.inj i j L L' e e' ?_ ?_ hb
    · rcases hg i L e with q | q
      · rw [← q]; exact hi
      · exact absurd q hi
    · rcases hg j L' e' with q | q
      · rw [← q]; exact hj
      · exact absurd q hj
  · rcases hg i L e with q | q
    · exact h.obj i L o e (q ▸ ho)
    · rw [q] at ho; exact absurd ho (by simp)

/-- an abstract object more, that stands nowhere yet -/
theorem WRel.grow (h : WRel B W0 H ι w) (o : AObj) : WRel B W0 (H.new o) ι w :=
  h.heap (by simp) fun i L e => .inl (by rw [AHeap.get_new, if_neg (by have := (h.dom i L e).1; omega)])

def Iota.put (ι : Iota) (i : Nat) (L : Loc) : Iota := fun j => if j = i then some L else ι j

theorem Iota.put_le {i : Nat} {L : Loc} (h : ι i = none) : ι.le (ι.put i L) := by
  intro j L' e
  unfold Iota.put
  by_cases hj : j = i
  · subst hj; rw [h] at e; simp at e
  · rw [if_neg hj]; exact e

/-- a block is made for an abstract object -/
theorem WRel.place (h : WRel B W0 H ι w) {i : Nat} {o : AObj} {o' : Obj} {L : Loc} (hi : i < H.next) (hn : ι i = none) (hL : L.blk = w.heap.size) (hw : w'.heap = w.heap.push o') (s : SameIO w w')
    (ho : ∀ x, H.get i = some x → orel B (ι.put i L) L x (some o')) : WRel B W0 H (ι.put i L) w' := by
  have hsz : w'.heap.size = w.heap.size + 1 := by rw [hw]; simp
  have hold : ∀ b, b < w.heap.size → w'.heap[b]? = w.heap[b]? := fun b hb => by
    rw [hw, Array.getElem?_push, if_neg (by omega)]
  refine ⟨by have := h.size; omega, fun b hb => ?_, fun j L' e => ?_, fun j k Lj Lk ej ek hj hk hb => ?_, fun j L' x e hx => ?_, h.io' s⟩
  · rw [hold b (by have := h.size; omega)]; exact h.base b hb
  · unfold Iota.put at e
    by_cases hj : j = i
    · rw [if_pos hj] at e; cases e
      have := h.size
      exact ⟨by omega, by omega, by omega⟩
    · rw [if_neg hj] at e
      have := h.dom j L' e
      exact ⟨this.1, this.2.1, by omega⟩
  · unfold Iota.put at ej ek
    by_cases hji : j = i
    · by_cases hki : k = i
      · omega
      · rw [if_pos hji] at ej; rw [if_neg hki] at ek; cases ej
        have := (h.dom k Lk ek).2.2; omega
    · by_cases hki : k = i
      · rw [if_neg hji] at ej; rw [if_pos hki] at ek; cases ek
        have := (h.dom j Lj ej).2.2; omega
      · rw [if_neg hji] at ej; rw [if_neg hki] at ek
        exact h.inj j k Lj Lk ej ek hj hk hb
  · unfold Iota.put at e
    by_cases hj : j = i
    · rw [if_pos hj] at e; cases e; subst hj
      have hg : w'.heap[L.blk]? = some o' := by rw [hw, hL]; simp
      rw [hg]
      exact ho x hx
    · rw [if_neg hj] at e
      rw [hold _ (h.dom j L' e).2.2]
      exact orel_mono (Iota.put_le hn) (h.obj j L' x e hx)

/-- an object of an abstract heap is changed, and its block -/
theorem WRel.put (h : WRel B W0 H ι w) {i : Nat} {o : AObj} {L : Loc} {o' : Obj} (hi : ι i = some L) (hlive : H.get i ≠ none) (hw : w'.heap = w.heap.setIfInBounds L.blk o') (s : SameIO w w')
    (ho : orel B ι L o (some o')) : WRel B W0 (H.set i (some o)) ι w' := by
  have hd := h.dom i L hi
  have hsz : w'.heap.size = w.heap.size := by rw [hw]; simp
  have hold : ∀ b, b ≠ L.blk → w'.heap[b]? = w.heap[b]? := fun b hb => by
    rw [hw, Array.getElem?_setIfInBounds_ne (fun e => hb e.symm)]
  have hlv : ∀ j, (H.set i (some o)).get j ≠ none → H.get j ≠ none := by
    intro j hj
    rw [AHeap.get_set] at hj
    by_cases e : j = i
    · subst e; exact hlive
    · rw [if_neg e] at hj; exact hj
  refine ⟨by have := h.size; omega, fun b hb => ?_, fun j L' e => ?_, fun j k Lj Lk ej ek hj hk hb => ?_, fun j L' x e hx => ?_, h.io' s⟩
  · rw [hold b (by omega)]; exact h.base b hb
  · have := h.dom j L' e; exact ⟨this.1, this.2.1, by omega⟩
  · exact h.inj j k Lj Lk ej ek (hlv j hj) (hlv k hk) hb
  · rw [AHeap.get_set] at hx
    by_cases e' : j = i
    · subst e'
      rw [if_pos rfl] at hx; cases hx
      rw [hi] at e; cases e
      have : w'.heap[L.blk]? = some o' := by rw [hw]; simp [hd.2.2]
      rw [this]; exact ho
    · rw [if_neg e'] at hx
      by_cases hb : L'.blk = L.blk
      · exact absurd (h.inj j i L' L e hi (by rw [hx]; simp) hlive hb) e'
      · rw [hold _ hb]; exact h.obj j L' x e hx

/-! ### lists -/
theorem nthN_eq : ∀ (n : Nat) (l : List AVal), nthN n l = l[n]?
  | _, [] => by cases ‹Nat› <;> simp [nthN]
  | 0, x :: l => by simp [nthN]
  | n + 1, x :: l => by simp [nthN, nthN_eq n l]

theorem dropN_eq : ∀ (n : Nat) (l : List AVal), dropN n l = l.drop n
  | 0, l => by simp [dropN]
  | n + 1, [] => by simp [dropN]
  | n + 1, x :: l => by simp [dropN, dropN_eq n l]

theorem takeN_eq : ∀ (n : Nat) (l r : List AVal), takeN n l = some r → n ≤ l.length ∧ r = l.take n
  | 0, l, r, h => by simp [takeN] at h; subst h; simp
  | n + 1, [], r, h => by simp [takeN] at h
  | n + 1, x :: l, r, h => by
    simp only [takeN] at h
    split at h <;> simp at h
    rename_i l' e
    obtain ⟨h1, rfl⟩ := takeN_eq n l l' e
    subst h; simp; exact h1

theorem setCells_spec : ∀ (cs : List AVal) (off : Nat) (vs cs' : List AVal), setCells cs off vs = some cs' → vs ≠ [] →
    cs'.length = cs.length ∧ off + vs.length ≤ cs.length ∧ ∀ j, cs'[j]? = if off ≤ j ∧ j < off + vs.length then vs[j - off]? else cs[j]?
  | _, _, [], _, _, h => absurd rfl h
  | [], _, v :: vs, cs', h, _ => by simp [setCells] at h
  | c :: cs, 0, v :: vs, cs', h, _ => by
    simp only [setCells] at h
    split at h <;> simp at h
    rename_i l e
    subst h
    by_cases hv : vs = []
    · subst hv
      simp [setCells] at e; subst e
      refine ⟨by simp, by simp, fun j => ?_⟩
      cases j with
      | zero => simp
      | succ j => simp
    · obtain ⟨h1, h2, h3⟩ := setCells_spec cs 0 vs l e hv
      refine ⟨by simp [h1], by simp at h2 ⊢; omega, fun j => ?_⟩
      cases j with
      | zero => simp
      | succ j =>
        have := h3 j
        simp only [List.getElem?_cons_succ, Nat.zero_le, true_and, List.length_cons, Nat.zero_add, Nat.sub_zero] at this ⊢
        rw [this]
        by_cases hj : j < vs.length
        · rw [if_pos hj, if_pos (by omega)]
        · rw [if_neg hj, if_neg (by omega)]
  | c :: cs, n + 1, v :: vs, cs', h, hv => by
    simp only [setCells] at h
    split at h <;> simp at h
    rename_i l e
    subst h
    obtain ⟨h1, h2, h3⟩ := setCells_spec cs n (v :: vs) l e hv
    refine ⟨by simp [h1], by simp at h2 ⊢; omega, fun j => ?_⟩
    cases j with
    | zero => simp
    | succ j =>
      have := h3 j
      simp only [List.getElem?_cons_succ] at this ⊢
      rw [this]
      by_cases hj : n ≤ j ∧ j < n + (v :: vs).length
      · rw [if_pos hj, if_pos (by omega)]
        congr 1; omega
      · rw [if_neg hj, if_neg (by omega)]

theorem allScalar_cons {v : AVal} {vs : List AVal} : allScalar (v :: vs) = true ↔ v.scalar = true ∧ allScalar vs = true := by simp [allScalar]

/-- a value of one cell -/
def vscalar : Value → Prop
  | .agg _ | .tuple _ => False
  | _ => True

theorem vrel_scalar {a : AVal} {v : Value} (h : a.scalar = true) (r : vrel B ι a v) : vscalar v := by
  cases a <;> simp [AVal.scalar] at h
  case ptr p => cases p <;> simp only [vrel] at r <;> (first | (subst r; trivial) | (obtain ⟨_, rfl, _⟩ := r; trivial))
  case map p => cases p <;> simp only [vrel] at r <;> (first | (subst r; trivial) | (obtain ⟨_, _, rfl⟩ := r; trivial))
  case slice a l c => simp only [vrel] at r; obtain ⟨_, _, _, rfl, _⟩ := r; trivial
  case func f x y => simp only [vrel] at r; obtain ⟨_, _, rfl, _⟩ := r; trivial
  case iface t x => simp only [vrel] at r; obtain ⟨_, rfl, _⟩ := r; trivial
  all_goals (simp only [vrel] at r; subst r; trivial)

theorem lrel_vscalar : ∀ {as : List AVal} {vs : List Value}, allScalar as = true → lrel B ι as vs → ∀ v ∈ vs, vscalar v
  | [], _, _, r => by rw [lrel_nil] at r; subst r; simp
  | a :: as, _, h, r => by
    obtain ⟨v, ws, rfl, h1, h2⟩ := lrel_cons.1 r
    rw [allScalar_cons] at h
    intro u hu
    rcases List.mem_cons.1 hu with rfl | hu
    · exact vrel_scalar h.1 h1
    · exact lrel_vscalar h.2 h2 u hu

theorem cells_scalar {v : Value} (h : vscalar v) : v.cells = #[v] := by cases v <;> first | rfl | exact h.elim

theorem vrel_cells {a : AVal} {v : Value} (h : allScalar a.cells = true) (r : vrel B ι a v) : lrel B ι a.cells v.cells.toList := by
  cases a
  case agg cs => simp only [vrel] at r; obtain ⟨cs', rfl, r⟩ := r; exact r
  all_goals
    have hs := (allScalar_cons.1 (show allScalar [_] = true from h)).1
    rw [cells_scalar (vrel_scalar hs r)]
    exact lrel_cons.2 ⟨v, [], rfl, r, lrel_nil.2 rfl⟩

end Am

namespace Am
open Go

structure FRel (B : Nat) (ι : Iota) (nt : Nat) (T : Tmps) (a : Act) : Prop where
  size : a.tmps.size = nt
  val : ∀ i, i < nt → vrel B ι (getT T (.of i)) (a.tmps.getD i undef)

variable {P : Program} {B nt : Nat} {ι ι' : Iota} {T : Tmps} {a : Act} {W0 w w' : World} {W0f : BaseF} {H H' : AHeap}

theorem FRel.mono (h : FRel B ι nt T a) (hi : ι.le ι') : FRel B ι' nt T a := ⟨h.size, fun i hn => vrel_mono hi _ _ (h.val i hn)⟩

theorem FRel.put (h : FRel B ι nt T a) {d : Option Nat} {d' : Option Path} (hd : cDst nt d = some d') {v : AVal} {v' : Value} (hv : vrel B ι v v') :
    FRel B ι nt (putT T d' v) (a.put d v') := by
  cases d with
  | none => simp [cDst] at hd; subst hd; exact h
  | some d =>
    simp only [cDst] at hd
    by_cases hlt : Nat.blt d nt = true
    · rw [hlt] at hd; simp at hd; subst hd
      have hlt' : d < nt := by have := hlt; simp [Nat.blt] at this; omega
      refine ⟨by simp [Act.put, h.size], fun i hi => ?_⟩
      simp only [putT, Act.put]
      by_cases e : i = d
      · subst e
        rw [getT_setT_same]
        simp only [Array.getD_eq_getD_getElem?]
        rw [Array.getElem?_setIfInBounds_self_of_lt (by rw [h.size]; exact hi)]
        simpa using hv
      · rw [getT_setT_ne T v (fun q => e (Path.of_inj q))]
        have := h.val i hi
        simp only [Array.getD_eq_getD_getElem?] at this ⊢
        rw [Array.getElem?_setIfInBounds_ne (fun q => e q.symm)]
        exact this
    · have : Nat.blt d nt = false := Bool.eq_false_iff.2 hlt
      rw [this] at hd; simp at hd

/-! operands -/
theorem mapOpt_cons {α β : Type} {f : α → Option β} {x : α} {xs : List α} {r : List β} (h : mapOpt f (x :: xs) = some r) : ∃ y ys, f x = some y ∧ mapOpt f xs = some ys ∧ r = y :: ys := by
  simp only [mapOpt] at h
  cases hx : f x with
  | none => simp [hx] at h
  | some y =>
    cases hy : mapOpt f xs with
    | none => simp [hx, hy] at h
    | some ys => simp [hx, hy] at h; exact ⟨y, ys, rfl, rfl, h.symm⟩

theorem mapOpt_nil {α β : Type} {f : α → Option β} {r : List β} (h : mapOpt f [] = some r) : r = [] := by simp [mapOpt] at h; exact h

theorem lift0_ok {v : Value} {x : AVal} (h : lift0 v = some x) : vrel B ι x v ∧ x.scalar = true := by
  cases v with
  | pointer q => cases q <;> simp [lift0] at h; subst h; exact ⟨rfl, rfl⟩
  | slice q l c =>
    cases q with
    | some q => simp [lift0] at h
    | none =>
      simp only [lift0] at h
      by_cases hb : (Nat.beq l 0 && Nat.beq c 0) = true
      · rw [hb] at h; simp at h; subst h
        simp [Tree.beq_eq] at hb
        obtain ⟨rfl, rfl⟩ := hb
        exact ⟨⟨none, 0, 0, rfl, rfl, rfl, rfl, rfl, rfl⟩, rfl⟩
      · rw [Bool.not_eq_true] at hb; rw [hb] at h; simp at h
  | map q => cases q <;> simp [lift0] at h; subst h; exact ⟨rfl, rfl⟩
  | bool b => simp [lift0] at h; subst h; exact ⟨rfl, rfl⟩
  | int k n => simp [lift0] at h; subst h; exact ⟨rfl, rfl⟩
  | float k n => simp [lift0] at h; subst h; exact ⟨rfl, rfl⟩
  | string s => simp [lift0] at h; subst h; exact ⟨by simp [vrel], rfl⟩
  | nilFunc => simp [lift0] at h; subst h; exact ⟨rfl, rfl⟩
  | nilIface => simp [lift0] at h; subst h; exact ⟨rfl, rfl⟩
  | complex k a b => simp [lift0] at h
  | chan r => simp [lift0] at h
  | func f x y => simp [lift0] at h
  | iface t x => simp [lift0] at h
  | agg cs => simp [lift0] at h
  | tuple vs => simp [lift0] at h

theorem lift0s_ok : ∀ {vs : List Value} {xs : List AVal}, mapOpt lift0 vs = some xs → lrel B ι xs vs ∧ allScalar xs = true
  | [], _, h => by have := mapOpt_nil h; subst this; exact ⟨lrel_nil.2 rfl, rfl⟩
  | v :: vs, _, h => by
    obtain ⟨y, ys, h1, h2, rfl⟩ := mapOpt_cons h
    have a := lift0_ok (B := B) (ι := ι) h1
    have b := lift0s_ok h2
    exact ⟨lrel_cons.2 ⟨v, vs, rfl, a.1, b.1⟩, allScalar_cons.2 ⟨a.2, b.2⟩⟩

theorem liftC_ok {v : Value} {x : AVal} (h : liftC v = some x) : vrel B ι x v := by
  cases v with
  | agg cs =>
    simp only [liftC] at h
    split at h <;> simp at h
    subst h
    rename_i l e
    exact ⟨cs, rfl, (lift0s_ok e).1⟩
  | tuple vs =>
    simp only [liftC] at h
    split at h <;> simp at h
    subst h
    rename_i e
    exact ⟨vs, rfl, lrel_nil.2 e⟩
  | _ => exact (lift0_ok (by simpa [liftC] using h)).1

theorem cOpd_ok (hf : FRel B ι nt T a) {x : Operand} {y : Opd} (h : cOpd nt x = some y) : vrel B ι (ev T y) (a.eval x) := by
  cases x with
  | tmp t =>
    simp only [cOpd] at h
    by_cases hlt : Nat.blt t nt = true
    · rw [hlt] at h; simp at h; subst h
      exact hf.val t (by simp [Nat.blt] at hlt; omega)
    · rw [Bool.not_eq_true] at hlt; rw [hlt] at h; simp at h
  | const v =>
    simp only [cOpd] at h
    split at h <;> simp at h
    subst h
    rename_i e
    exact liftC_ok e
  | global g => simp [cOpd] at h
  | func f =>
    simp [cOpd] at h; subst h
    exact ⟨#[], #[], rfl, lrel_nil.2 rfl, lrel_nil.2 rfl⟩

theorem cOpds_ok (hf : FRel B ι nt T a) : ∀ {xs : List Operand} {ys : List Opd}, mapOpt (cOpd nt) xs = some ys → lrel B ι (evs T ys) (xs.map a.eval)
  | [], _, h => by have := mapOpt_nil h; subst this; exact lrel_nil.2 rfl
  | x :: xs, _, h => by
    obtain ⟨y, ys, h1, h2, rfl⟩ := mapOpt_cons h
    exact lrel_cons.2 ⟨_, _, rfl, cOpd_ok hf h1, cOpds_ok hf h2⟩

/-- an operand that may be missing -/
def orel1 (B : Nat) (ι : Iota) : Option AVal → Option Value → Prop
  | none, v => v = none
  | some x, v => ∃ v', v = some v' ∧ vrel B ι x v'

theorem cOpt_ok (hf : FRel B ι nt T a) {x : Option Operand} {y : Option Opd} (h : cOpt nt x = some y) : orel1 B ι (evOpt T y) (x.map a.eval) := by
  cases x with
  | none => simp [cOpt] at h; subst h; rfl
  | some x =>
    simp only [cOpt] at h
    split at h <;> simp at h
    subst h
    rename_i e
    exact ⟨_, rfl, cOpd_ok hf e⟩

/-! reading -/
theorem add_eq (b o n : Nat) : (⟨b, o, none⟩ : Addr).add n = ⟨b, o + n, none⟩ := by
  unfold Addr.add
  by_cases h : n = 0
  · subst h; simp
  · simp [h]

theorem arel_add {x : AAddr} {y : Addr} (h : arel B ι x y) (n : Nat) : arel B ι (x.add n) (y.add n) := by
  obtain ⟨b, o⟩ := x
  cases b with
  | base b => obtain ⟨h, rfl⟩ := h; rw [add_eq]; exact ⟨h, rfl⟩
  | loc i =>
    obtain ⟨L, e, rfl⟩ := h
    rw [add_eq]
    exact ⟨L, e, by simp [Nat.add_assoc]⟩

theorem cells_at (hw : WRel B W0 H ι w) (hb : BRel B W0f W0) {x : AAddr} {y : Addr} (h : arel B ι x y) {cs : List AVal} (hc : blkCells W0f H x.blk = some cs) {j : Nat} {v : AVal}
    (hv : nthN (x.off + j) cs = some v) : ∃ v', w.cell? (y.add j) = some v' ∧ vrel B ι v v' := by
  obtain ⟨b, o⟩ := x
  cases b with
  | base b =>
    obtain ⟨h, rfl⟩ := h
    obtain ⟨hlt, c, ty, fr, e, hx⟩ := hb b cs hc
    obtain ⟨v', hv', hr⟩ := hx _ _ hv
    refine ⟨v', ?_, vrel_mono (fun _ _ e => by simp at e) _ _ hr⟩
    rw [add_eq]
    simp only [World.cell?, hw.base b hlt, e]
    exact hv'
  | loc i =>
    obtain ⟨L, e, rfl⟩ := h
    simp only [blkCells] at hc
    split at hc <;> simp at hc
    subst hc
    rename_i ty cs st hg
    obtain ⟨c, ty', fr, e1, e2, e3, e4, e5⟩ := hw.obj i L _ e hg
    obtain ⟨v', hv', hr⟩ := e4 _ _ hv
    refine ⟨v', ?_, hr⟩
    rw [add_eq]
    simp only [World.cell?, e1]
    rw [Nat.add_assoc]
    exact hv'

theorem read1_ok (hw : WRel B W0 H ι w) (hb : BRel B W0f W0) {x : AAddr} {y : Addr} (h : arel B ι x y) {v : AVal} (hr : read1 W0f H x = some v) :
    ∃ v', w.cell? y = some v' ∧ vrel B ι v v' := by
  unfold read1 at hr
  split at hr
  case h_2 => exact absurd hr (by simp)
  rename_i cs e
  have := cells_at hw hb h e (j := 0) (by simpa using hr)
  obtain ⟨b, o⟩ := x
  cases b <;> simp only [arel] at h
  · obtain ⟨_, rfl⟩ := h; rw [add_eq] at this; simpa using this
  · obtain ⟨L, _, rfl⟩ := h; rw [add_eq] at this; simpa using this

theorem readN_ok (hw : WRel B W0 H ι w) (hb : BRel B W0f W0) {x : AAddr} {y : Addr} (h : arel B ι x y) {n : Nat} {l : List AVal} (hr : readN W0f H x n = some l) :
    l.length = n ∧ ∀ (j : Nat) (v : AVal), l[j]? = some v → ∃ v', w.cell? (y.add j) = some v' ∧ vrel B ι v v' := by
  unfold readN at hr
  split at hr
  · simp at hr; subst hr; simp
  · split at hr
    case h_2 => exact absurd hr (by simp)
    rename_i cs e
    obtain ⟨h1, rfl⟩ := takeN_eq _ _ _ hr
    rw [dropN_eq] at h1 ⊢
    simp at h1
    refine ⟨by simp; omega, fun j v hj => ?_⟩
    refine cells_at hw hb h e ?_
    rw [nthN_eq]
    rw [List.getElem?_take] at hj
    split at hj <;> simp at hj
    exact hj

theorem lrel_of_get : ∀ {l : List AVal} {vs : List Value}, vs.length = l.length → (∀ (j : Nat) (v : AVal), l[j]? = some v → ∃ v', vs[j]? = some v' ∧ vrel B ι v v') → lrel B ι l vs
  | [], vs, h, _ => lrel_nil.2 (by simpa using h)
  | x :: l, [], h, _ => by simp at h
  | x :: l, v :: vs, h, hg => by
    obtain ⟨v', e, hr⟩ := hg 0 x rfl
    simp at e; subst e
    exact lrel_cons.2 ⟨v, vs, rfl, hr, lrel_of_get (by simpa using h) fun j u hj => by simpa using hg (j + 1) u (by simpa using hj)⟩

/-- the values at some cells, chosen -/
theorem choose_list {Q : Nat → AVal → Value → Prop} : ∀ (l : List AVal) (k : Nat), (∀ (j : Nat) (v : AVal), l[j]? = some v → ∃ v', Q (k + j) v v') → ∃ vs : List Value, vs.length = l.length ∧ ∀ (j : Nat) (v : AVal), l[j]? = some v → ∃ v', vs[j]? = some v' ∧ Q (k + j) v v'
  | [], k, _ => ⟨[], rfl, by simp⟩
  | x :: l, k, h => by
    obtain ⟨v', hv⟩ := h 0 x rfl
    obtain ⟨vs, h1, h2⟩ := choose_list (Q := Q) l (k + 1) fun j v hj => by
      have := h (j + 1) v (by simpa using hj)
      simpa [Nat.add_assoc, Nat.add_comm 1 j] using this
    refine ⟨v' :: vs, by simp [h1], fun j v hj => ?_⟩
    cases j with
    | zero => simp at hj; subst hj; exact ⟨v', rfl, hv⟩
    | succ j =>
      obtain ⟨u, e, q⟩ := h2 j v (by simpa using hj)
      exact ⟨u, by simpa using e, by simpa [Nat.add_assoc, Nat.add_comm 1 j] using q⟩

theorem loadCells_ok (hw : WRel B W0 H ι w) (hb : BRel B W0f W0) {x : AAddr} {y : Addr} (h : arel B ι x y) {n : Nat} {l : List AVal} (hr : readN W0f H x n = some l) :
    ∃ vs : List Value, lrel B ι l vs ∧ ∀ w' : World, w'.heap = w.heap → (loadCells y n).run P w' = .ok vs.toArray w' := by
  obtain ⟨h1, h2⟩ := readN_ok hw hb h hr
  obtain ⟨vs, h3, h4⟩ := choose_list (Q := fun j v v' => w.cell? (y.add j) = some v' ∧ vrel B ι v v') l 0 (by simpa using h2)
  refine ⟨vs, lrel_of_get h3 fun j v hj => ?_, ?_⟩
  · obtain ⟨v', e, q⟩ := h4 j v hj; exact ⟨v', e, q.2⟩
  · intro w' hw'
    have := run_loadCells_list (P := P) (w := w') y vs (fun j v hj => by
      have hlt : j < l.length := by rw [← h3]; exact (List.getElem?_eq_some_iff.1 hj).1
      obtain ⟨v', e, q⟩ := h4 j l[j] (by simp [hlt])
      rw [hj] at e; cases e
      have q1 := q.1
      simp only [World.cell?, hw', Nat.zero_add] at q1 ⊢
      exact q1)
    rw [h3, h1] at this
    exact this

end Am

namespace Am
open Go

variable {P : Program} {B nt : Nat} {ι ι' : Iota} {T : Tmps} {a : Act} {W0 w w' : World} {W0f : BaseF} {H H' : AHeap}

def putAll : Array Value → Nat → List Value → Array Value
  | c, _, [] => c
  | c, o, v :: vs => putAll (c.setIfInBounds o v) (o + 1) vs

theorem putAll_size : ∀ (vs : List Value) (c : Array Value) (o : Nat), (putAll c o vs).size = c.size
  | [], _, _ => rfl
  | v :: vs, c, o => by simp [putAll, putAll_size vs]

theorem putAll_get : ∀ (vs : List Value) (c : Array Value) (o k : Nat), o + vs.length ≤ c.size → (putAll c o vs)[k]? = if o ≤ k ∧ k < o + vs.length then vs[k - o]? else c[k]?
  | [], c, o, k, _ => by simp [putAll]; intros; omega
  | v :: vs, c, o, k, h => by
    simp only [putAll, List.length_cons] at h ⊢
    rw [putAll_get vs _ _ _ (by simp; omega)]
    by_cases hk : k = o
    · subst hk
      rw [if_neg (by omega), if_pos (by omega)]
      rw [Array.getElem?_setIfInBounds_self_of_lt (by omega)]
      simp
    · by_cases h1 : o + 1 ≤ k ∧ k < o + 1 + vs.length
      · rw [if_pos h1, if_pos (by omega)]
        obtain ⟨m, rfl⟩ : ∃ m, k = o + 1 + m := ⟨k - (o + 1), by omega⟩
        rw [show o + 1 + m - (o + 1) = m by omega, show o + 1 + m - o = m + 1 by omega]
        simp
      · rw [if_neg h1, if_neg (by omega), Array.getElem?_setIfInBounds_ne (fun e => hk e.symm)]

theorem heap_set_self {h : Array Obj} {b : Nat} {o : Obj} (e : h[b]? = some o) : h.setIfInBounds b o = h := by
  apply Array.ext_getElem?
  intro k
  by_cases hk : k = b
  · subst hk
    have : k < h.size := (Array.getElem?_eq_some_iff.1 e).1
    rw [Array.getElem?_setIfInBounds_self_of_lt this, e]
  · rw [Array.getElem?_setIfInBounds_ne (fun q => hk q.symm)]

theorem oneCell_of {v : Value} (h : vscalar v) : v.oneCell' = true := by cases v <;> first | rfl | exact h.elim

theorem storeCells_run (b o : Nat) : ∀ (vs : List Value) (i : Nat) (w : World) (c : Array Value) (ty : TypeId) (fr : Nat × Nat), w.heap[b]? = some (.cells c ty fr) → (∀ v ∈ vs, vscalar v) →
    o + i + vs.length ≤ c.size → (∀ k, k < c.size → ¬ (fr.1 ≤ k ∧ k < fr.2)) →
    ∃ w', (storeCells ⟨b, o, none⟩ vs i).run P w = .ok () w' ∧ w'.heap = w.heap.setIfInBounds b (.cells (putAll c (o + i) vs) ty fr) ∧ SameIO w w'
  | [], i, w, c, ty, fr, e, _, _, _ => ⟨w, by simp [storeCells], by simp [putAll, heap_set_self e], SameIO.refl w⟩
  | v :: vs, i, w, c, ty, fr, e, hv, hl, hf => by
    simp only [List.length_cons] at hl
    have hlt : o + i < c.size := by omega
    have hc : w.cell? (Addr.add ⟨b, o, none⟩ i) = some c[o + i] := by
      rw [add_eq]; simp [World.cell?, e, hlt]
    have hfr : w.frozen? (Addr.add ⟨b, o, none⟩ i) = false := by
      rw [add_eq]
      simp only [World.frozen?, e]
      have := hf _ hlt
      simp only [Bool.and_eq_false_iff, decide_eq_false_iff_not]
      omega
    have hset : (w.setCell (Addr.add ⟨b, o, none⟩ i) v).heap = w.heap.setIfInBounds b (.cells (c.setIfInBounds (o + i) v) ty fr) := by
      rw [add_eq]
      simp only [World.setCell]
      apply Array.ext_getElem?
      intro k
      have hb : b < w.heap.size := (Array.getElem?_eq_some_iff.1 e).1
      by_cases hk : k = b
      · subst hk
        rw [Array.getElem?_setIfInBounds_self_of_lt hb, Array.getElem?_modify]
        simp [e]
      · rw [Array.getElem?_setIfInBounds_ne (fun q => hk q.symm), Array.getElem?_modify]
        simp only [Option.isSome_none, Bool.false_eq_true, if_false]
        rw [if_neg (fun q => hk q.symm)]
    have e' : (w.setCell (Addr.add ⟨b, o, none⟩ i) v).heap[b]? = some (.cells (c.setIfInBounds (o + i) v) ty fr) := by
      rw [hset, Array.getElem?_setIfInBounds_self_of_lt (Array.getElem?_eq_some_iff.1 e).1]
    obtain ⟨w', h1, h2, h2'⟩ := storeCells_run b o vs (i + 1) _ _ ty fr e' (fun u hu => hv u (List.mem_cons_of_mem _ hu)) (by simp; omega) (by simpa using hf)
    refine ⟨w', ?_, ?_, SameIO.trans ⟨rfl, rfl⟩ h2'⟩
    · simp only [storeCells, Sem.run_bind, run_store P w _ v .plain (oneCell_of (hv v (List.mem_cons_self ..))), hc, hfr, Bool.false_eq_true, if_false, Result.andThen_ok]
      exact h1
    · rw [h2, hset]
      apply Array.ext_getElem?
      intro k
      have hb : b < w.heap.size := (Array.getElem?_eq_some_iff.1 e).1
      by_cases hk : k = b
      · subst hk
        rw [Array.getElem?_setIfInBounds_self_of_lt (by simpa using hb), Array.getElem?_setIfInBounds_self_of_lt hb]
        simp [putAll, Nat.add_assoc]
      · rw [Array.getElem?_setIfInBounds_ne (fun q => hk q.symm), Array.getElem?_setIfInBounds_ne (fun q => hk q.symm), Array.getElem?_setIfInBounds_ne (fun q => hk q.symm)]

theorem lrel_getD : ∀ {as : List AVal} {vs : List Value} {j : Nat} {x : AVal}, lrel B ι as vs → as[j]? = some x → ∃ v, vs[j]? = some v ∧ vrel B ι x v := by
  intro as vs j x h e
  exact lrel_get h (by rw [nthN_eq]; exact e)

theorem writeCells_ok (hw : WRel B W0 H ι w) {x : AAddr} {y : Addr} (h : arel B ι x y) {as : List AVal} {vs : List Value} (hs : allScalar as = true) (hr : lrel B ι as vs)
    (hx : writeCells H x as = some H') : ∃ w', (storeCells y vs).run P w = .ok () w' ∧ WRel B W0 H' ι w' ∧ H'.next = H.next ∧ (∀ i, ι i = none → H'.get i = H.get i) := by
  cases as with
  | nil =>
    rw [lrel_nil] at hr; subst hr
    simp [writeCells] at hx; subst hx
    exact ⟨w, by simp [storeCells], hw, rfl, fun _ _ => rfl⟩
  | cons a0 as =>
    obtain ⟨b, o⟩ := x
    cases b with
    | base b => simp [writeCells] at hx
    | loc i =>
      obtain ⟨L, e, rfl⟩ := h
      simp only [writeCells] at hx
      split at hx
      case h_2 => exact absurd hx (by simp)
      rename_i ty cs st hg
      split at hx
      case h_2 => exact absurd hx (by simp)
      rename_i cs' hset
      simp at hx; subst hx
      obtain ⟨s1, s2, s3⟩ := setCells_spec _ _ _ _ hset (by simp)
      obtain ⟨c, ty', fr, e1, e2, e3, e4, e5⟩ := hw.obj i L _ e hg
      have hlen := lrel_length hr
      obtain ⟨w', h1, h2, h2'⟩ := storeCells_run (P := P) L.blk (L.sh + o) vs 0 w c ty' fr e1 (lrel_vscalar hs hr) (by omega) (unfrozen e5)
      refine ⟨w', h1, hw.put e (by rw [hg]; simp) h2 h2' ?_, rfl, fun j hj => ?_⟩
      · refine ⟨_, ty', fr, rfl, by rw [putAll_size]; exact e2, by omega, fun j v hv => ?_, by rw [putAll_size]; exact e5⟩
        rw [nthN_eq, s3] at hv
        rw [putAll_get _ _ _ _ (by omega)]
        by_cases hj : o ≤ j ∧ j < o + (a0 :: as).length
        · rw [if_pos hj] at hv
          rw [if_pos (by omega)]
          obtain ⟨v', hv', hr'⟩ := lrel_getD hr hv
          exact ⟨v', by rw [show L.sh + j - (L.sh + o + 0) = j - o by omega]; exact hv', hr'⟩
        · rw [if_neg hj] at hv
          rw [if_neg (by omega)]
          exact e4 j v (by rw [nthN_eq]; exact hv)
      · rw [AHeap.get_set, if_neg]
        intro q; subst q; rw [e] at hj; simp at hj

/-! ## what an instruction owes -/

/-- later: what stood stands; what had no block has none, but for what is new -/
structure Later (H : AHeap) (ι : Iota) (H' : AHeap) (ι' : Iota) : Prop where
  le : ι.le ι'
  new : ∀ i, i < H.next → ι i = none → ι' i = none
  next : H.next ≤ H'.next
  keep : ∀ i, i < H.next → ι i = none → H'.get i = H.get i

theorem Later.refl (H : AHeap) (ι : Iota) : Later H ι H ι := ⟨Iota.le_refl ι, fun _ _ h => h, Nat.le_refl _, fun _ _ _ => rfl⟩
theorem Later.trans {H'' : AHeap} {ι'' : Iota} (h : Later H ι H' ι') (h' : Later H' ι' H'' ι'') : Later H ι H'' ι'' :=
  ⟨Iota.le_trans h.le h'.le, fun i hi hn => h'.new i (by have := h.next; omega) (h.new i hi hn), Nat.le_trans h.next h'.next,
    fun i hi hn => (h'.keep i (by have := h.next; omega) (h.new i hi hn)).trans (h.keep i hi hn)⟩

/-- what a call of the abstract machine says of a call of the model -/
def EndRel (B : Nat) (ι : Iota) : CallRes → Ending → Prop
  | .ret v _, .returned v' => vrel B ι v v'
  | .pan v _, .panicked ch => ∃ v', ch = [{ v := v', recovered := false }] ∧ vrel B ι v v'
  | _, _ => False

def CallRes.heap : CallRes → AHeap → AHeap
  | .ret _ H, _ => H
  | .pan _ H, _ => H
  | .stuck, H => H

/-- no call of the machine's outgrows the platform's room: nothing is asked of what stands behind such an end -/
def Outs (_ : Exit → Act → World → Prop) : Prop := True

/-- what is known of all calls: of a function with a body; of one without -/
def CallsOK (P : Program) (B : Nat) (W0 : World) (callf : CallF) : Prop :=
  ∀ (f : FuncId) (args : List AVal) (H : AHeap), callf f args H ≠ .stuck → ∀ (ι : Iota) (w : World) (args' : Array Value), WRel B W0 H ι w → lrel B ι args args'.toList →
    ((callFunc f args').run P w = .ok (.enter f args') w ∧
      Calls P f args' w fun e w' => ∃ ι', Later H ι ((callf f args H).heap H) ι' ∧ WRel B W0 ((callf f args H).heap H) ι' w' ∧ EndRel B ι' (callf f args H) e) ∨
    ∃ v H' v' w' ι', callf f args H = .ret v H' ∧ (callFunc f args').run P w = .ok (.value v') w' ∧ Later H ι H' ι' ∧ WRel B W0 H' ι' w' ∧ vrel B ι' v v'

def PureOK (P : Program) (nt : Nat) (o : Oper) (f : Tmps → Option AVal) : Prop :=
  ∀ (B : Nat) (ι : Iota) (T : Tmps) (a : Act) (v : AVal) (w : World), FRel B ι nt T a → f T = some v → ∃ v', (execOp a.eval o).run P w = .ok (.value v') w ∧ vrel B ι v v'

def ReadOK (P : Program) (nt : Nat) (o : Oper) (f : BaseF → Tmps → AHeap → Option AVal) : Prop :=
  ∀ (B : Nat) (W0 : World) (W0f : BaseF) (H : AHeap) (ι : Iota) (T : Tmps) (a : Act) (v : AVal) (w : World), FRel B ι nt T a → WRel B W0 H ι w → BRel B W0f W0 → f W0f T H = some v →
    ∃ v', (execOp a.eval o).run P w = .ok (.value v') w ∧ vrel B ι v v'

def AllocOK (P : Program) (nt : Nat) (o : Oper) (f : Tmps → Option (AObj × (Nat → AVal))) : Prop :=
  ∀ (B : Nat) (ι : Iota) (T : Tmps) (a : Act) (x : AObj) (mk : Nat → AVal) (w : World), FRel B ι nt T a → f T = some (x, mk) →
    ∃ v' w' ob L, (execOp a.eval o).run P w = .ok (.value v') w' ∧ (w'.heap = w.heap.push ob ∧ SameIO w w') ∧ L.blk = w.heap.size ∧
      ∀ id, ι id = none → orel B (ι.put id L) L x (some ob) ∧ vrel B (ι.put id L) (mk id) v'

/-- goes on behind an instruction that may do anything -/
def ChainOK (P : Program) (nt : Nat) (o : Oper) (f : BaseF → CallF → Tmps → AHeap → AOut) : Prop :=
  ∀ (B : Nat) (W0 : World) (W0f : BaseF) (callf : CallF) (H : AHeap) (ι : Iota) (T : Tmps) (a : Act) (w : World) (K : Act → World → Prop) (Q : Exit → Act → World → Prop),
    FRel B ι nt T a → WRel B W0 H ι w → BRel B W0f W0 → CallsOK P B W0 callf → Outs Q →
    (∀ v H' ι' v' w', f W0f callf T H = .val v H' → Later H ι H' ι' → WRel B W0 H' ι' w' → vrel B ι' v v' → K (a.put o.dst v') w') →
    (∀ v H' ι' v' w', f W0f callf T H = .pan v H' → Later H ι H' ι' → WRel B W0 H' ι' w' → vrel B ι' v v' → Q (.panic [{ v := v', recovered := false }]) a w') →
    (∀ d d', f W0f callf T H = .dfr d → (∃ cap args', d' = { target := .fn (.func d.fn) cap, args := args' } ∧ lrel B ι d.args (args'.toList ++ cap.toList)) → K ({ a with defers := d' :: a.defers }.put o.dst undef) w) →
    f W0f callf T H ≠ .stuck → o.wp P a w K Q ∨ (o.asks P a w ∧ LetsOut Q)

def RunOK (P : Program) (nt : Nat) (o : Oper) : ARun → Prop
  | .pure f => PureOK P nt o f
  | .alloc f => AllocOK P nt o f
  | .read f => ReadOK P nt o f
  | .chain f => ChainOK P nt o f
  | .recover => ∃ at_ ty, o.op = .call { callee := .builtin .recover, args := #[], argTypes := at_ } ∧ o.type = ty

end Am

namespace Am
open Go

variable {P : Program} {B nt : Nat} {ι ι' : Iota} {T : Tmps} {a : Act} {W0 w w' : World} {W0f : BaseF} {H H' : AHeap}

/-! tables -/
theorem run_und {t : TypeId} {d : TypeDesc} (h : P.underlying t = some d) : (underlying t).run P w = .ok d w := by
  simp [underlying, h]

theorem run_info {t : TypeId} {i : TypeInfo} (h : P.info? t = some i) : (typeInfo t).run P w = .ok i w := by
  simp [typeInfo, h]

theorem run_size {t : TypeId} {n : Nat} (h : sizeOf? P t = some n) : (Go.sizeOf t).run P w = .ok n w := by
  unfold sizeOf? at h
  cases e : P.info? t with
  | none => simp [e] at h
  | some i => simp [e] at h; subst h; simp [Go.sizeOf, run_info e]

theorem run_isAgg {t : TypeId} {s : Option Nat} (h : shapeOf P t = some s) : (isAgg t).run P w = .ok s.isSome w ∧ (∀ n, s = some n → sizeOf? P t = some n) := by
  unfold shapeOf at h
  cases e : P.underlying t with
  | none => simp [e] at h
  | some d =>
    cases hs : sizeOf? P t with
    | none => cases d <;> simp [e, hs] at h <;> subst h <;> simp [isAgg, run_und e]
    | some n => cases d <;> simp [e, hs] at h <;> subst h <;> simp [isAgg, run_und e]

theorem run_zero {t : TypeId} {z : AVal} (h : zeroA P t = some z) : ∃ v, (zeroValue t).run P w = .ok v w ∧ vrel B ι z v ∧ liftC v = some z := by
  unfold zeroA at h
  cases e : P.info? t with
  | none => simp [e] at h
  | some i =>
    simp only [e] at h
    cases hz : i.zero with
    | none => simp [hz] at h
    | some v =>
      simp only [hz] at h
      exact ⟨v, by simp [zeroValue, run_info e, hz], liftC_ok h, h⟩

/-! moves -/
theorem mv_ok {o : Oper} {x : Operand} {y : Opd} (ho : o.op = .move x ∨ o.op = .assign x) (hy : cOpd nt x = some y) : PureOK P nt o fun T => some (ev T y) := by
  intro B ι T a v w hf hv
  simp at hv; subst hv
  refine ⟨a.eval x, ?_, cOpd_ok hf hy⟩
  rcases ho with ho | ho <;> simp [execOp, ho]

theorem pick_ok {o : Oper} {c x y : Operand} {c' x' y' : Opd} (ho : o.op = .pick c x y) (hc : cOpd nt c = some c') (hx : cOpd nt x = some x') (hy : cOpd nt y = some y') :
    PureOK P nt o fun T => xPick (ev T c') (ev T x') (ev T y') := by
  intro B ι T a v w hf hv
  have hc' := cOpd_ok hf hc
  simp only [xPick] at hv
  split at hv
  · rename_i e
    rw [e] at hc'
    simp only [vrel] at hc'
    simp at hv; subst hv
    exact ⟨_, by simp [execOp, ho, hc', asBool], cOpd_ok hf hx⟩
  · rename_i e
    rw [e] at hc'
    simp only [vrel] at hc'
    simp at hv; subst hv
    exact ⟨_, by simp [execOp, ho, hc', asBool], cOpd_ok hf hy⟩
  · exact absurd hv (by simp)

theorem mkIface_ok {o : Oper} {t : TypeId} {x : Operand} {y : Opd} {d : TypeDesc} (ho : o.op = .makeInterface t x) (hd : P.underlying t = some d) (hn : ∀ ms, d ≠ .interface ms) (hy : cOpd nt x = some y) :
    PureOK P nt o fun T => some (.iface t (ev T y)) := by
  intro B ι T a v w hf hv
  simp at hv; subst hv
  refine ⟨.iface t (a.eval x), ?_, ⟨_, rfl, cOpd_ok hf hy⟩⟩
  have : (Instr.makeInterface t (a.eval x)).run P w = .ok (.iface t (a.eval x)) w := by
    unfold Instr.makeInterface
    rw [Sem.run_bind, run_und hd]
    simp only [Result.andThen_ok]
    cases d <;> first | rfl | exact absurd rfl (hn _)
  simp [execOp, ho, this]

theorem mkFunc_ok {o : Oper} {fn : Fn} {f c : Array Operand} {f' c' : List Opd} (ho : o.op = .makeFunc fn f c) (hf' : mapOpt (cOpd nt) f.toList = some f') (hc' : mapOpt (cOpd nt) c.toList = some c') :
    PureOK P nt o fun T => some (.func fn (evs T f') (evs T c')) := by
  intro B ι T a v w hf hv
  simp at hv; subst hv
  refine ⟨.func fn (f.map a.eval) (c.map a.eval), by simp [execOp, ho, Instr.makeFunc], ⟨_, _, rfl, ?_, ?_⟩⟩
  · simpa using cOpds_ok hf hf'
  · simpa using cOpds_ok hf hc'

theorem extract_ok {o : Oper} {x : Operand} {i : Nat} {y : Opd} (ho : o.op = .extract x i) (hy : cOpd nt x = some y) : PureOK P nt o fun T => xExtract (ev T y) i := by
  intro B ι T a v w hf hv
  have hx := cOpd_ok hf hy
  simp only [xExtract] at hv
  split at hv
  case h_2 => exact absurd hv (by simp)
  rename_i vs e
  rw [e] at hx
  obtain ⟨vs', e', hr⟩ := hx
  obtain ⟨v', h1, h2⟩ := lrel_get hr hv
  have h1' : vs'[i]? = some v' := by simpa using h1
  exact ⟨v', by simp [execOp, ho, e', Instr.extract, h1'], h2⟩

/-! numbers -/
theorem wrap_id {k : IntKind} {n : Int} (h0 : k.min ≤ n) (h1 : n ≤ k.max) : k.wrap n = n := by
  cases k <;> simp [IntKind.min, IntKind.max, IntKind.wrap, IntKind.signed, IntKind.bits] at * <;> omega

theorem fwrap_eq (k : IntKind) (n : Int) : fwrap k n = k.wrap n := by
  cases n with
  | ofNat n =>
    simp only [fwrap]
    cases hb : Nat.blt n (half k) with
    | false => simp
    | true =>
      simp only [cond_true]
      have : n < half k := by simp [Nat.blt] at hb; omega
      symm; apply wrap_id
      · cases k <;> simp [IntKind.min, IntKind.signed, IntKind.bits, half] at * <;> omega
      · cases k <;> simp [IntKind.max, IntKind.signed, IntKind.bits, half] at * <;> omega
  | negSucc n =>
    simp only [fwrap]
    cases hb : (k.signed && Nat.blt n (half k)) with
    | false => simp
    | true =>
      simp only [cond_true]
      simp only [Bool.and_eq_true] at hb
      have : n < half k := by have := hb.2; simp [Nat.blt] at this; omega
      have hs := hb.1
      symm; apply wrap_id
      · cases k <;> simp [IntKind.min, IntKind.signed, IntKind.bits, half] at * <;> omega
      · cases k <;> simp [IntKind.max, IntKind.signed, IntKind.bits, half] at * <;> omega

theorem kbeq_iff (j k : IntKind) : IntKind.beq j k = true ↔ j = k := by cases j <;> cases k <;> simp [IntKind.beq]

theorem iEq_iff (a b : Int) : iEq a b = (a == b) := by
  rw [Bool.eq_iff_iff]
  cases a <;> cases b <;> simp [iEq, Tree.beq_eq] <;> omega

theorem iLt_iff (a b : Int) : iLt a b = decide (a < b) := by
  rw [Bool.eq_iff_iff]
  cases a <;> cases b <;> simp [iLt, Nat.blt] <;> omega

theorem natOf_eq (k : IntKind) (n : Int) : natOf k n = (BitVec.ofInt k.bits n).toNat := by
  rw [BitVec.toNat_ofInt]
  cases n with
  | ofNat n =>
    have : ((Int.ofNat n) % ((2 ^ k.bits : Nat) : Int)) = ((n % 2 ^ k.bits : Nat) : Int) := by simp
    rw [this, Int.toNat_natCast]
    cases k <;> simp [natOf, pow2, IntKind.bits] <;> rfl
  | negSucc n =>
    have hp : (0 : Int) < ((2 ^ k.bits : Nat) : Int) := by have := Nat.two_pow_pos k.bits; omega
    simp only [natOf]
    rw [show Nat.mod n (pow2 k) = n % pow2 k from rfl, show ∀ x y, Nat.sub x y = x - y from fun _ _ => rfl, Nat.pred_eq_sub_one]
    rw [Int.negSucc_emod n hp]
    have hpk : pow2 k = 2 ^ k.bits := by cases k <;> rfl
    rw [hpk]
    have h1 : n % 2 ^ k.bits < 2 ^ k.bits := Nat.mod_lt _ (Nat.two_pow_pos _)
    have h2 : ((n : Int) % ((2 ^ k.bits : Nat) : Int)) = ((n % 2 ^ k.bits : Nat) : Int) := by simp
    rw [h2]
    omega

theorem intOp_ok {op : BinOp} {k : IntKind} {x y : Int} {v : AVal} (h : intOp op k x y = some v) (hn : op ≠ .eql) (hn' : op ≠ .neq) (hs : op ≠ .shl) (hs' : op ≠ .shr) (t : TypeId) :
    ∃ v', (binOp op t (.int k x) (.int k y)).run P w = .ok v' w ∧ vrel B ι v v' := by
  have hp : pow2 k = 2 ^ k.bits := by cases k <;> rfl
  cases op <;> simp [intOp] at h
  case add => subst h; exact ⟨.int k (k.wrap (x + y)), by simp [binOp, Op.intArith], by simp [vrel, fwrap_eq]⟩
  case sub => subst h; exact ⟨.int k (k.wrap (x - y)), by simp [binOp, Op.intArith], by simp [vrel, fwrap_eq]; rfl⟩
  case mul => subst h; exact ⟨.int k (k.wrap (x * y)), by simp [binOp, Op.intArith], by simp [vrel, fwrap_eq]⟩
  case quo =>
    rw [iEq_iff] at h
    by_cases h0 : y = 0
    · subst h0; simp at h
    · have : (y == 0) = false := by simpa using h0
      simp [this] at h
      subst h
      exact ⟨.int k (k.wrap (x.tdiv y)), by simp [binOp, Op.intDiv, h0], by simp [vrel, fwrap_eq]⟩
  case rem =>
    rw [iEq_iff] at h
    by_cases h0 : y = 0
    · subst h0; simp at h
    · have : (y == 0) = false := by simpa using h0
      simp [this] at h
      subst h
      exact ⟨.int k (x.tmod y), by simp [binOp, Op.intDiv, h0], by simp [vrel]⟩
  case and =>
    subst h
    refine ⟨.int k (k.wrap (BitVec.ofInt k.bits x &&& BitVec.ofInt k.bits y).toNat), by simp [binOp, Op.intBits], ?_⟩
    simp only [vrel, fwrap_eq, natOf_eq]
    simp
  case or =>
    subst h
    refine ⟨.int k (k.wrap (BitVec.ofInt k.bits x ||| BitVec.ofInt k.bits y).toNat), by simp [binOp, Op.intBits], ?_⟩
    simp only [vrel, fwrap_eq, natOf_eq]
    simp
  case xor =>
    subst h
    refine ⟨.int k (k.wrap (BitVec.ofInt k.bits x ^^^ BitVec.ofInt k.bits y).toNat), by simp [binOp, Op.intBits], ?_⟩
    simp only [vrel, fwrap_eq, natOf_eq]
    simp
  case andNot =>
    subst h
    refine ⟨.int k (k.wrap (BitVec.ofInt k.bits x &&& ~~~ BitVec.ofInt k.bits y).toNat), by simp [binOp, Op.intBits], ?_⟩
    simp only [vrel, fwrap_eq, natOf_eq]
    simp only [BitVec.toNat_and, BitVec.toNat_not, hp]
  case lss => subst h; exact ⟨.bool (decide (x < y)), by simp [binOp, Op.intCmp], by simp [vrel, iLt_iff]⟩
  case leq => subst h; exact ⟨.bool (decide (x ≤ y)), by simp [binOp, Op.intCmp], by simp [vrel, iLt_iff]; rw [Bool.eq_iff_iff]; simp⟩
  case gtr => subst h; exact ⟨.bool (decide (x > y)), by simp [binOp, Op.intCmp], by simp [vrel, iLt_iff]⟩
  case geq => subst h; exact ⟨.bool (decide (x ≥ y)), by simp [binOp, Op.intCmp], by simp [vrel, iLt_iff]; rw [Bool.eq_iff_iff]; simp⟩

end Am

namespace Am
open Go

variable {P : Program} {B nt : Nat} {ι ι' : Iota} {T : Tmps} {a : Act} {W0 w w' : World} {W0f : BaseF} {H H' : AHeap}

theorem shiftOp_ok {op : BinOp} {k k' : IntKind} {x y : Int} {v : AVal} (h : shiftOp op k x y = some v) (t : TypeId) :
    ∃ v', (binOp op t (.int k x) (.int k' y)).run P w = .ok v' w ∧ vrel B ι v v' := by
  cases y with
  | negSucc y => simp [shiftOp] at h
  | ofNat y =>
    have hb : (bif Nat.ble y (bitsN k) then y else bitsN k) = min y k.bits := by
      have : bitsN k = k.bits := by cases k <;> rfl
      rw [this]
      cases hc : Nat.ble y k.bits with
      | true => have := Nat.le_of_ble_eq_true hc; simp; omega
      | false => have : ¬ y ≤ k.bits := fun q => by rw [Nat.ble_eq_true_of_le q] at hc; simp at hc
                 simp; omega
    cases op <;> simp [shiftOp] at h
    case shl =>
      subst h
      refine ⟨.int k (k.wrap (x * 2 ^ min y k.bits)), by simp [binOp, Op.shift, show ¬ ((y : Int) < 0) by omega], ?_⟩
      simp only [vrel, fwrap_eq, hb]
    case shr =>
      subst h
      refine ⟨.int k (x.fdiv (2 ^ min y k.bits)), by simp [binOp, Op.shift, show ¬ ((y : Int) < 0) by omega], ?_⟩
      have e : Int.ofNat (Nat.pow 2 (min y k.bits)) = (2 : Int) ^ min y k.bits := by
        show ((2 ^ min y k.bits : Nat) : Int) = _
        simp
      simp only [vrel, hb]
      cases x with
      | ofNat x =>
        simp only [Value.int.injEq, true_and]
        rw [← e]
        exact (Int.ofNat_fdiv _ _).symm
      | negSucc x => rw [← e]

theorem floatOp_ok {op : BinOp} {k : FloatKind} {x y : Nat} {v : AVal} (h : floatOp op k x y = some v) (t : TypeId) :
    ∃ v', (binOp op t (.float k x) (.float k y)).run P w = .ok v' w ∧ vrel B ι v v' := by
  cases op <;> simp [floatOp] at h
  case add => obtain ⟨r, e, rfl⟩ := h; exact ⟨.float k r, by simp [binOp, Op.floatArith, e], rfl⟩
  case sub => obtain ⟨r, e, rfl⟩ := h; exact ⟨.float k r, by simp [binOp, Op.floatArith, e], rfl⟩
  case mul => obtain ⟨r, e, rfl⟩ := h; exact ⟨.float k r, by simp [binOp, Op.floatArith, e], rfl⟩
  case quo => obtain ⟨r, e, rfl⟩ := h; exact ⟨.float k r, by simp [binOp, Op.floatArith, e], rfl⟩
  all_goals (subst h; refine ⟨_, ?_, rfl⟩; simp [binOp, Op.floatCmp])

theorem bytesEq_iff : ∀ (x y : List UInt8), bytesEq x y = decide (x = y)
  | [], [] => by simp [bytesEq]
  | [], _ :: _ => by simp [bytesEq]
  | _ :: _, [] => by simp [bytesEq]
  | a :: x, b :: y => by
    simp only [bytesEq, bytesEq_iff x y, Tree.beq_eq]
    rw [Bool.eq_iff_iff]
    simp [UInt8.toNat_inj]

theorem bytesLt_iff : ∀ (x y : List UInt8), bytesLt x y = Op.bytesLess x y
  | [], [] => rfl
  | [], _ :: _ => rfl
  | _ :: _, [] => rfl
  | a :: x, b :: y => by
    simp only [bytesLt, Op.bytesLess, bytesLt_iff x y, Tree.beq_eq]
    congr 1
    · rw [Bool.eq_iff_iff]; simp [Nat.blt, UInt8.lt_iff_toNat_lt]; omega
    · congr 1
      rw [Bool.eq_iff_iff]; simp [UInt8.toNat_inj]

theorem toList_mk (l : List UInt8) : (⟨l.toArray⟩ : ByteArray).toList = l := by
  simp [ByteArray.toList_eq]

theorem lbeq (x y : List UInt8) : (x == y) = decide (x = y) := by rw [Bool.eq_iff_iff]; simp

theorem strOp_ok {op : BinOp} {x y : List UInt8} {v : AVal} (h : strOp op x y = some v) (t : TypeId) :
    ∃ v', (binOp op t (.string ⟨x.toArray⟩) (.string ⟨y.toArray⟩)).run P w = .ok v' w ∧ vrel B ι v v' := by
  cases op <;> simp [strOp] at h
  case add =>
    cases hb : Nat.ble (x.length + y.length) 1000000000000 with
    | false => simp [hb] at h
    | true =>
      simp [hb] at h; subst h
      have hle := Nat.le_of_ble_eq_true hb
      refine ⟨.string (⟨x.toArray⟩ ++ ⟨y.toArray⟩), ?_, ?_⟩
      · have hm : ¬ (((⟨x.toArray⟩ : ByteArray).size + (⟨y.toArray⟩ : ByteArray).size : Nat) : Int) > IntKind.i64.max := by
          simp [IntKind.max, IntKind.signed, IntKind.bits, ByteArray.size]; omega
        simp only [binOp, Op.stringOp]
        rw [if_neg hm]; simp
      · simp only [vrel]
        congr 1
  all_goals (subst h; refine ⟨_, ?_, rfl⟩; simp [binOp, Op.stringOp, bytesLt_iff, bytesEq_iff, lbeq])

end Am

namespace Am
open Go

variable {P : Program} {B nt : Nat} {ι ι' : Iota} {T : Tmps} {a : Act} {W0 w w' : World} {W0f : BaseF} {H H' : AHeap}

theorem kbeq_eq {j k : IntKind} (h : IntKind.beq j k = true) : j = k := (kbeq_iff j k).1 h

theorem guard_not {op : BinOp} (h : op ≠ .eql) (h' : op ≠ .neq) (t : TypeId) (x y : Operand) (u v : Value) : (eqGuard op t x y u v).run P w = .ok () w := by
  cases op <;> first | exact absurd rfl h | exact absurd rfl h' | simp [eqGuard]

theorem binA_ok {op : BinOp} {x y z : AVal} {x' y' : Value} (h : binA op x y = some z) (hn : op ≠ .eql) (hn' : op ≠ .neq) (hx : vrel B ι x x') (hy : vrel B ι y y') (t : TypeId) :
    ∃ v', (binOp op t x' y').run P w = .ok v' w ∧ vrel B ι z v' := by
  unfold binA at h
  split at h
  · split at h
    · simp only [vrel] at hx hy; subst hx; subst hy; exact shiftOp_ok h t
    · exact absurd h (by simp)
  · split at h
    · simp only [vrel] at hx hy; subst hx; subst hy; exact shiftOp_ok h t
    · exact absurd h (by simp)
  · rename_i h1 h2
    split at h
    · rename_i k p k' q
      cases hk : IntKind.beq k k' with
      | false => simp [hk] at h
      | true =>
        simp only [hk, cond_true] at h
        have := kbeq_eq hk; subst this
        simp only [vrel] at hx hy; subst hx; subst hy
        exact intOp_ok h hn hn' h1 h2 t
    · rename_i k p k' q
      by_cases hk : k = k'
      · subst hk
        simp only [if_true] at h
        simp only [vrel] at hx hy; subst hx; subst hy
        exact floatOp_ok h t
      · simp [hk] at h
    · simp only [vrel] at hx hy; subst hx; subst hy; exact strOp_ok h t
    · exact absurd h (by simp)

theorem bin_ok {o : Oper} {op : BinOp} {t ty : TypeId} {x y : Operand} {x' y' : Opd} (ho : o.op = .binOp op t x y ty) (hn : op ≠ .eql) (hn' : op ≠ .neq) (hx : cOpd nt x = some x') (hy : cOpd nt y = some y') :
    PureOK P nt o fun T => binA op (ev T x') (ev T y') := by
  intro B ι T a v w hf hv
  obtain ⟨v', h1, h2⟩ := binA_ok (P := P) (w := w) hv hn hn' (cOpd_ok hf hx) (cOpd_ok hf hy) t
  exact ⟨v', by simp [execOp, ho, guard_not hn hn', h1], h2⟩

/-! comparisons -/
theorem equal_eq (t : TypeId) (u v : Value) : Op.equal t u v = Op.equalIn (9999 + 1) t u v := rfl

def eqOpOf (neg : Bool) : BinOp := if neg then .neq else .eql

theorem guard_vals (neg : Bool) (t : TypeId) (x y : Operand) (u v : Value) (h : ¬ (u = .nilIface ∧ v = .nilIface)) (h' : ∀ p q, ¬ (u = .agg p ∧ v = .agg q)) :
    (eqGuard (eqOpOf neg) t x y u v).run P w = .ok () w := by
  cases neg <;> (simp only [eqGuard, eqOpOf]; cases u <;> cases v <;> first | rfl | exact absurd ⟨rfl, rfl⟩ h | exact absurd ⟨rfl, rfl⟩ (h' _ _))

theorem neg_val (neg b : Bool) (v : AVal) (h : negB neg (some b) = some v) : v = .bool (if neg then !b else b) := by
  cases neg <;> simp [negB] at h <;> simp [← h]

/-- what is left to show of a comparison -/
theorem eq_of {o : Oper} {neg : Bool} {t ty : TypeId} {x y : Operand} {x' y' : Opd} {f : AVal → AVal → Option Bool} (ho : o.op = .binOp (eqOpOf neg) t x y ty)
    (hx : cOpd nt x = some x') (hy : cOpd nt y = some y')
    (hf' : ∀ (B : Nat) (ι : Iota) (p q : AVal) (u v : Value) (w : World) (b : Bool), f p q = some b → vrel B ι p u → vrel B ι q v →
      (eqGuard (eqOpOf neg) t x y u v).run P w = .ok () w ∧ (binOp (eqOpOf neg) t u v).run P w = .ok (.bool (if neg then !b else b)) w) :
    PureOK P nt o fun T => negB neg (f (ev T x') (ev T y')) := by
  intro B ι T a v w hf hv
  cases hb : f (ev T x') (ev T y') with
  | none => simp [hb, negB] at hv
  | some b =>
    simp only [hb] at hv
    have := neg_val _ _ _ hv
    subst this
    obtain ⟨h1, h2⟩ := hf' B ι _ _ _ _ w b hb (cOpd_ok hf hx) (cOpd_ok hf hy)
    exact ⟨.bool (if neg then !b else b), by simp [execOp, ho, h1, h2], rfl⟩

theorem eqNum_ok {neg : Bool} (t : TypeId) (x y : Operand) (B : Nat) (ι : Iota) (p q : AVal) (u v : Value) (w : World) (b : Bool) (h : eqNum p q = some b) (hu : vrel B ι p u) (hv : vrel B ι q v) :
    (eqGuard (eqOpOf neg) t x y u v).run P w = .ok () w ∧ (binOp (eqOpOf neg) t u v).run P w = .ok (.bool (if neg then !b else b)) w := by
  unfold eqNum at h
  split at h
  · rename_i k m k' n
    cases hk : IntKind.beq k k' with
    | false => simp [hk] at h
    | true =>
      simp [hk] at h
      have := kbeq_eq hk; subst this
      simp only [vrel] at hu hv; subst hu; subst hv; subst h
      refine ⟨guard_vals _ _ _ _ _ _ (by simp) (by simp), ?_⟩
      cases neg <;> simp [eqOpOf, binOp, Op.intCmp, iEq_iff, bne]
  · rename_i k m k' n
    by_cases hk : k = k'
    · subst hk
      simp at h
      simp only [vrel] at hu hv; subst hu; subst hv; subst h
      refine ⟨guard_vals _ _ _ _ _ _ (by simp) (by simp), ?_⟩
      cases neg <;> simp [eqOpOf, binOp, Op.floatCmp, bne]
    · simp [hk] at h
  · simp at h
    simp only [vrel] at hu hv; subst hu; subst hv; subst h
    refine ⟨guard_vals _ _ _ _ _ _ (by simp) (by simp), ?_⟩
    cases neg <;> simp [eqOpOf, binOp, Op.stringOp, bytesEq_iff, lbeq]
  · exact absurd h (by simp)

/-- through the model's equality -/
theorem eq_via {neg : Bool} {t : TypeId} {u v : Value} {b : Bool} (h : (Op.equal t u v).run P w = .ok b w)
    (hs : match u, v with | .int _ _, .int _ _ | .float _ _, .float _ _ | .complex _ _ _, .complex _ _ _ | .string _, .string _ => False | _, _ => True) :
    (binOp (eqOpOf neg) t u v).run P w = .ok (.bool (if neg then !b else b)) w := by
  have e1 : binOp .eql t u v = (do pure (.bool (← Op.equal t u v))) := by
    unfold binOp
    split <;> first | rfl | (simp_all; done)
  have e2 : binOp .neq t u v = (do pure (.bool (!(← Op.equal t u v)))) := by
    unfold binOp
    split <;> first | rfl | (simp_all; done)
  cases neg
  · simp [eqOpOf, e1, h]
  · simp [eqOpOf, e2, h]

theorem eqBool_ok {neg : Bool} {t : TypeId} (ht : P.underlying t = some .bool) (x y : Operand) (B : Nat) (ι : Iota) (p q : AVal) (u v : Value) (w : World) (b : Bool) (h : eqBool p q = some b)
    (hu : vrel B ι p u) (hv : vrel B ι q v) : (eqGuard (eqOpOf neg) t x y u v).run P w = .ok () w ∧ (binOp (eqOpOf neg) t u v).run P w = .ok (.bool (if neg then !b else b)) w := by
  unfold eqBool at h
  split at h
  · simp at h
    simp only [vrel] at hu hv; subst hu; subst hv; subst h
    refine ⟨guard_vals _ _ _ _ _ _ (by simp) (by simp), eq_via ?_ trivial⟩
    rw [equal_eq]; unfold Op.equalIn; rw [Sem.run_bind, run_und ht]; rfl
  · exact absurd h (by simp)

theorem eqSl_ok {neg : Bool} {t e : TypeId} (ht : P.underlying t = some (.slice e)) (x y : Operand) (B : Nat) (ι : Iota) (p q : AVal) (u v : Value) (w : World) (b : Bool) (h : eqSl p q = some b)
    (hu : vrel B ι p u) (hv : vrel B ι q v) : (eqGuard (eqOpOf neg) t x y u v).run P w = .ok () w ∧ (binOp (eqOpOf neg) t u v).run P w = .ok (.bool (if neg then !b else b)) w := by
  have some_of : ∀ {s : AAddr} {l : Nat} {c : ACap} {s' : Option Addr} {l' c' : Nat}, srel B ι (some s) l c s' l' c' → ∃ z, s' = some z := by
    intro s l c s' l' c' hs
    cases c with
    | ex c => obtain ⟨⟨z, e, _⟩, _⟩ := hs; exact ⟨z, e⟩
    | op e =>
      obtain ⟨bl, of⟩ := s
      cases bl with
      | base _ => exact hs.elim
      | loc i => obtain ⟨L, o', _, e, _⟩ := hs; exact ⟨_, e⟩
  unfold eqSl at h
  split at h <;> simp at h <;> subst h <;> simp only [vrel] at hu hv <;> obtain ⟨s1, l1, c1, rfl, r1⟩ := hu <;> obtain ⟨s2, l2, c2, rfl, r2⟩ := hv
  · obtain ⟨rfl, _⟩ := r1; obtain ⟨rfl, _⟩ := r2
    refine ⟨guard_vals _ _ _ _ _ _ (by simp) (by simp), eq_via ?_ trivial⟩
    rw [equal_eq]; unfold Op.equalIn; rw [Sem.run_bind, run_und ht]; rfl
  · obtain ⟨rfl, _⟩ := r1; obtain ⟨z, rfl⟩ := some_of r2
    refine ⟨guard_vals _ _ _ _ _ _ (by simp) (by simp), eq_via ?_ trivial⟩
    rw [equal_eq]; unfold Op.equalIn; rw [Sem.run_bind, run_und ht]; rfl
  · obtain ⟨z, rfl⟩ := some_of r1; obtain ⟨rfl, _⟩ := r2
    refine ⟨guard_vals _ _ _ _ _ _ (by simp) (by simp), eq_via ?_ trivial⟩
    rw [equal_eq]; unfold Op.equalIn; rw [Sem.run_bind, run_und ht]; rfl

theorem eqMap_ok {neg : Bool} {t k e : TypeId} (ht : P.underlying t = some (.map k e)) (x y : Operand) (B : Nat) (ι : Iota) (p q : AVal) (u v : Value) (w : World) (b : Bool) (h : eqMap p q = some b)
    (hu : vrel B ι p u) (hv : vrel B ι q v) : (eqGuard (eqOpOf neg) t x y u v).run P w = .ok () w ∧ (binOp (eqOpOf neg) t u v).run P w = .ok (.bool (if neg then !b else b)) w := by
  unfold eqMap at h
  split at h <;> simp at h <;> subst h <;> simp only [vrel] at hu hv
  · subst hu; subst hv
    refine ⟨guard_vals _ _ _ _ _ _ (by simp) (by simp), eq_via ?_ trivial⟩
    rw [equal_eq]; unfold Op.equalIn; rw [Sem.run_bind, run_und ht]; rfl
  · obtain ⟨L, _, rfl⟩ := hv; subst hu
    refine ⟨guard_vals _ _ _ _ _ _ (by simp) (by simp), eq_via ?_ trivial⟩
    rw [equal_eq]; unfold Op.equalIn; rw [Sem.run_bind, run_und ht]; rfl
  · obtain ⟨L, _, rfl⟩ := hu; subst hv
    refine ⟨guard_vals _ _ _ _ _ _ (by simp) (by simp), eq_via ?_ trivial⟩
    rw [equal_eq]; unfold Op.equalIn; rw [Sem.run_bind, run_und ht]; rfl

theorem eqFunc_ok {neg : Bool} {t : TypeId} {ps rs : Array TypeId} {vr : Bool} (ht : P.underlying t = some (.func ps rs vr)) (x y : Operand) (B : Nat) (ι : Iota) (p q : AVal) (u v : Value) (w : World) (b : Bool)
    (h : eqFunc p q = some b) (hu : vrel B ι p u) (hv : vrel B ι q v) : (eqGuard (eqOpOf neg) t x y u v).run P w = .ok () w ∧ (binOp (eqOpOf neg) t u v).run P w = .ok (.bool (if neg then !b else b)) w := by
  unfold eqFunc at h
  split at h <;> simp at h <;> subst h <;> simp only [vrel] at hu hv
  · subst hu; subst hv
    refine ⟨guard_vals _ _ _ _ _ _ (by simp) (by simp), eq_via ?_ trivial⟩
    rw [equal_eq]; unfold Op.equalIn; rw [Sem.run_bind, run_und ht]; rfl
  · obtain ⟨_, _, rfl, _⟩ := hv; subst hu
    refine ⟨guard_vals _ _ _ _ _ _ (by simp) (by simp), eq_via ?_ trivial⟩
    rw [equal_eq]; unfold Op.equalIn; rw [Sem.run_bind, run_und ht]; rfl
  · obtain ⟨_, _, rfl, _⟩ := hu; subst hv
    refine ⟨guard_vals _ _ _ _ _ _ (by simp) (by simp), eq_via ?_ trivial⟩
    rw [equal_eq]; unfold Op.equalIn; rw [Sem.run_bind, run_und ht]; rfl

theorem isC_const {x : Operand} {y : Opd} (h : cOpd nt x = some y) (hc : y.isC = true) : ∃ v, x = .const v := by
  cases x with
  | tmp t =>
    simp only [cOpd] at h
    cases hb : Nat.blt t nt <;> simp [hb] at h
    subst h; simp [Opd.isC] at hc
  | const v => exact ⟨v, rfl⟩
  | global g => simp [cOpd] at h
  | func f => simp [cOpd] at h; subst h; simp [Opd.isC] at hc

theorem eqIf_ok {neg : Bool} {t : TypeId} {ms : Array (String × TypeId)} (ht : P.underlying t = some (.interface ms)) {x y : Operand} {x' y' : Opd} (hx : cOpd nt x = some x') (hy : cOpd nt y = some y')
    (B : Nat) (ι : Iota)
    (p q : AVal) (u v : Value) (w : World) (b : Bool) (h : eqIf (nilOK P t x' y') p q = some b) (hu : vrel B ι p u) (hv : vrel B ι q v) :
    (eqGuard (eqOpOf neg) t x y u v).run P w = .ok () w ∧ (binOp (eqOpOf neg) t u v).run P w = .ok (.bool (if neg then !b else b)) w := by
  unfold eqIf at h
  split at h
  · cases hn : nilOK P t x' y' with
    | false => simp [hn] at h
    | true =>
      simp [hn] at h; subst h
      simp only [vrel] at hu hv; subst hu; subst hv
      refine ⟨?_, eq_via ?_ trivial⟩
      · simp only [nilOK, Bool.or_eq_true] at hn
        rcases hn with (hn | hn) | hn
        · obtain ⟨c, rfl⟩ := isC_const hx hn
          cases neg <;> simp [eqGuard, eqOpOf]
        · obtain ⟨c, rfl⟩ := isC_const hy hn
          cases neg <;> simp [eqGuard, eqOpOf]
        · simp [ht] at hn
          subst hn
          cases neg <;> (simp only [eqGuard, eqOpOf]; rw [show Op.maxDepth = 9999 + 1 from rfl]; unfold Op.eqGuardIn; simp [run_und ht])
      · rw [equal_eq]; unfold Op.equalIn; rw [Sem.run_bind, run_und ht]; rfl
  · simp at h; subst h
    simp only [vrel] at hu hv; subst hu; obtain ⟨_, rfl, _⟩ := hv
    refine ⟨guard_vals _ _ _ _ _ _ (by simp) (by simp), eq_via ?_ trivial⟩
    rw [equal_eq]; unfold Op.equalIn; rw [Sem.run_bind, run_und ht]; rfl
  · simp at h; subst h
    simp only [vrel] at hu hv; subst hv; obtain ⟨_, rfl, _⟩ := hu
    refine ⟨guard_vals _ _ _ _ _ _ (by simp) (by simp), eq_via ?_ trivial⟩
    rw [equal_eq]; unfold Op.equalIn; rw [Sem.run_bind, run_und ht]; rfl
  · exact absurd h (by simp)

end Am
