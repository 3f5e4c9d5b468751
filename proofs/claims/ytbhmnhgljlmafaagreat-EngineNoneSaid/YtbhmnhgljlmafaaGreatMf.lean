/- The abstract machine: regions whose order is drawn: what is ready runs. -/
import Derived.Test.YtbhmnhgljlmafaaGreatMe
import Derived.Recover
set_option linter.all false

namespace Am
open Go

variable {P : Program} {B nt : Nat} {ι ι' : Iota} {T T' : Tmps} {a a' : Act} {W0 w w' : World} {W0f : BaseF} {H H' : AHeap} {callf : CallF}
  {ops : Array Oper} {Q : Exit → Act → World → Prop} {K : Act → World → Prop} {D D' : List ADef}
variable {dsts : List Path} {H0 : AHeap} {ι0 : Iota} {late : List LE} {rest : List DInst} {seen : List (DInst × AVal)} {listed : Array Bool} {x : DInst}

/-- all that must come ahead of it is done -/
def Free (listed : Array Bool) (x : DInst) : Prop := ∀ j, x.mask.testBit j = true → listed.getD j false = true

theorem getD_listed {i : Nat} (hi : i < listed.size) : listed.getD i true = listed.getD i false := by
  simp [Array.getD_eq_getD_getElem?, hi]

theorem getD_set {i j : Nat} {b : Bool} (hi : i < listed.size) : (listed.setIfInBounds i true).getD j b = if j = i then true else listed.getD j b := by
  simp only [Array.getD_eq_getD_getElem?]
  by_cases h : j = i
  · subst h; rw [Array.getElem?_setIfInBounds_self_of_lt hi]; simp
  · rw [Array.getElem?_setIfInBounds_ne (fun e => h e.symm), if_neg h]

variable (h : DInv P ops B nt W0 W0f callf dsts H0 ι0 D Q late rest seen T H ι a w listed)

theorem DInv.unbit (h : DInv P ops B nt W0 W0f callf dsts H0 ι0 D Q late rest seen T H ι a w listed) (hfree : Free listed x) {z : DInst} (hz : z ∈ lateX late ++ rest) : x.mask.testBit z.at_ = false := by
  cases e : x.mask.testBit z.at_ with
  | false => rfl
  | true =>
    have h1 := hfree _ e
    have h2 := h.unl z hz
    rw [getD_listed (by rw [h.sz]; exact (h.info z hz).lt), h1] at h2
    simp at h2

/-- the slots of what is ready stand -/
theorem DInv.agr (h : DInv P ops B nt W0 W0f callf dsts H0 ι0 D Q late rest seen T H ι a w listed) (hfree : Free listed x) (hx : x ∈ lateX late ++ rest) : Agr T (anyAll T (dstsOf (lateX late))) x.ins.slots := by
  intro p hp
  refine (getT_nany fun hm => ?_).symm
  obtain ⟨z, hz, hd⟩ := mem_dstsOf.1 hm
  have hz' : z ∈ lateX late ++ rest := List.mem_append_left _ hz
  have hb := h.unbit hfree hz'
  rcases pairwise_or h.pw x hx z hz' with e | e | e
  · subst e; exact (h.info x hx).own p hd hp
  · exact e.xy hb p hd hp
  · exact e.yx hb p hd hp

/-- the order's part of what holds, when x is done -/
theorem DInv.order (h : DInv P ops B nt W0 W0f callf dsts H0 ι0 D Q late rest seen T H ι a w listed) (hfree : Free listed x) (hx : x ∈ lateX late ++ rest) {l : List DInst} (hsub : ∀ y, y ∈ l → y ∈ lateX late ++ rest)
    (hne : ∀ y ∈ l, y.at_ ≠ x.at_) (hback : ∀ y ∈ lateX late ++ rest, y.at_ ≠ x.at_ → y ∈ l) :
    (listed.setIfInBounds x.at_ true).size = ops.size ∧ (∀ y ∈ l, (listed.setIfInBounds x.at_ true).getD y.at_ true = false) ∧
    (∀ i, i < ops.size → (listed.setIfInBounds x.at_ true).getD i true = false → ∃ y ∈ l, y.at_ = i) ∧
    (∀ i m, (listed.setIfInBounds x.at_ true).getD i false = true → (masksFrom ops.toList [])[i]? = some m → ∀ j, m.testBit j = true → (listed.setIfInBounds x.at_ true).getD j false = true) := by
  have hlt : x.at_ < listed.size := by rw [h.sz]; exact (h.info x hx).lt
  refine ⟨by simp [h.sz], fun y hy => ?_, fun i hi he => ?_, fun i m he hm j hj => ?_⟩
  · rw [getD_set hlt, if_neg (hne y hy)]; exact h.unl y (hsub y hy)
  · rw [getD_set hlt] at he
    by_cases e : i = x.at_
    · rw [if_pos e] at he; simp at he
    · rw [if_neg e] at he
      obtain ⟨y, hy, q⟩ := h.unlof i hi he
      exact ⟨y, hback y hy (by rw [q]; exact e), q⟩
  · rw [getD_set hlt] at he ⊢
    by_cases ej : j = x.at_
    · rw [if_pos ej]
    · rw [if_neg ej]
      by_cases e : i = x.at_
      · subst e
        rw [(h.info x hx).mask] at hm
        simp at hm; subst hm
        exact hfree j hj
      · rw [if_neg e] at he
        exact h.closed i m he hm j hj

theorem ne_of_mem {l1 l2 : List DInst} (hp : (l1 ++ x :: l2).Pairwise PairOK) : ∀ y ∈ l1 ++ l2, y.at_ ≠ x.at_ := by
  intro y hy
  have h1 := List.pairwise_append.1 hp
  rcases List.mem_append.1 hy with q | q
  · exact (h1.2.2 y q x (by simp)).at_
  · exact fun e => ((List.pairwise_cons.1 h1.2.1).1 y q).at_ e.symm

/-- late, and now ready -/
theorem DInv.runLate {l1 l2 : List LE} {e : LE} (h : DInv P ops B nt W0 W0f callf dsts H0 ι0 D Q (l1 ++ e :: l2) rest seen T H ι a w listed) (hb : BRel B W0f W0) (hfree : Free listed e.x)
    (hK : ∀ ι' a' w', DInv P ops B nt W0 W0f callf dsts H0 ι0 D Q (l1 ++ l2) rest seen T H ι' a' w' (listed.setIfInBounds e.x.at_ true) → K a' w') :
    wpOp P ops Q e.x.at_ K a w := by
  have hmem : e.x ∈ lateX (l1 ++ e :: l2) ++ rest := by simp [lateX]
  have hi := h.info e.x hmem
  obtain ⟨o, ho, hc⟩ := hi.comp
  obtain ⟨op, d, g, h1, h2, h3, h4⟩ := cInst_inv hc
  have hgd : e.x.ins.guard = g := by rw [h4]
  have hds : e.x.ins.dst = d := by rw [h4]
  have hrn : e.x.ins.run = op.run := by rw [h4]
  have hagr := h.agr hfree hmem
  obtain ⟨s1, s2⟩ := hi.same hagr
  have hle := h.lateok e (by simp)
  have heq : lateX (l1 ++ e :: l2) ++ rest = lateX l1 ++ e.x :: (lateX l2 ++ rest) := by simp [lateX]
  have heq' : lateX (l1 ++ l2) ++ rest = lateX l1 ++ (lateX l2 ++ rest) := by simp [lateX]
  have hpw := h.pw
  rw [heq] at hpw
  have hne := ne_of_mem hpw
  rw [← heq'] at hne
  have hsubl : ∀ q, q ∈ l1 ++ l2 → q ∈ l1 ++ e :: l2 := fun q hq => by simp at hq ⊢; rcases hq with q | q <;> simp [q]
  have hsub : ∀ y, y ∈ lateX (l1 ++ l2) ++ rest → y ∈ lateX (l1 ++ e :: l2) ++ rest := fun y hy => by
    rw [heq'] at hy; rw [heq]; simp at hy ⊢; rcases hy with q | q | q <;> simp [q]
  have hback : ∀ y ∈ lateX (l1 ++ e :: l2) ++ rest, y.at_ ≠ e.x.at_ → y ∈ lateX (l1 ++ l2) ++ rest := fun y hy hn => by
    rw [heq] at hy; rw [heq']; simp at hy ⊢
    rcases hy with q | q | q | q
    · simp [q]
    · subst q; exact absurd rfl hn
    · simp [q]
    · simp [q]
  obtain ⟨r1, r2, r3, r4⟩ := h.order hfree hmem hsub hne hback
  have fin : ∀ (v' : Value) (ι' : Iota) (w' : World), ι.le ι' → (∀ i, ι i = none → e.id ≠ some i → ι' i = none) → (∀ i, ι i = none → ι' i ≠ none → H0.next ≤ i) → vrel B ι' e.v v' → WRel B W0 H ι' w' → K (a.put o.dst v') w' := by
    intro v' ι' w' hle' hun hfar hv hw
    refine hK ι' _ w' ?_
    have hlater : Later H0 ι0 H ι' := by
      refine ⟨Iota.le_trans h.later.le hle', fun i hi' hn => ?_, h.later.next, h.later.keep⟩
      have hn' := h.later.new i hi' hn
      cases q : ι' i with
      | none => rfl
      | some L => have := hfar i hn' (by rw [q]; simp); omega
    refine ⟨?_, fun y hy => h.info y (hsub y hy), r1, r2, r3, r4, ?_, fun q hq => h.vals q (hsubl q hq), ?_, ?_, fun q hq => h.idlt q (hsubl q hq), fun q hq => h.inseen q (hsubl q hq), hlater, hw, ?_, h.run, h.post⟩
    · rw [heq']
      exact hpw.sublist (List.Sublist.append_left (List.sublist_cons_self ..) _)
    · have hf : FRel B ι' nt (putT (anyAll T (dstsOf (lateX (l1 ++ e :: l2)))) d e.v) (a.put o.dst v') := (h.frame.mono hle').put h2 hv
      refine hf.weaken fun p => ?_
      by_cases hp : p ∈ dstsOf (lateX (l1 ++ l2))
      · exact .inl (getT_any hp)
      · refine .inr ?_
        rw [getT_nany hp]
        rcases getT_put (anyAll T (dstsOf (lateX (l1 ++ e :: l2)))) d e.v p with ⟨q, qd⟩ | ⟨q, qd⟩
        · rw [q]; exact h.vals e (by simp) p (by rw [hds, qd])
        · rw [q]
          refine (getT_nany fun hm => ?_).symm
          obtain ⟨z, hz, hzd⟩ := mem_dstsOf.1 hm
          simp [lateX] at hz
          rcases hz with ⟨z', hz', rfl⟩ | rfl | ⟨z', hz', rfl⟩
          · exact hp (mem_dstsOf.2 ⟨z'.x, by simp [lateX]; exact .inl ⟨z', hz', rfl⟩, hzd⟩)
          · exact qd (by rw [← hds]; exact hzd)
          · exact hp (mem_dstsOf.2 ⟨z'.x, by simp [lateX]; exact .inr ⟨z', hz', rfl⟩, hzd⟩)
    · intro q hq
      have hids := List.pairwise_append.1 h.ids
      rcases h.lateok q (hsubl q hq) with z | ⟨z, z'⟩
      · exact .inl z
      · refine .inr ⟨z, ?_⟩
        cases hre : q.x.ins.run with
        | pure f => rw [hre] at z'; exact z'
        | read f => rw [hre] at z'; exact z'
        | alloc f =>
          rw [hre] at z'
          obtain ⟨i, o', mk', y1, y2, y3, y4, y5, y6⟩ := z'
          refine ⟨i, o', mk', y1, y2, y3, y4, hun i y5 fun ei => ?_, y6⟩
          rcases List.mem_append.1 hq with t | t
          · exact hids.2.2 q t e (by simp) i y1 ei
          · exact (List.pairwise_cons.1 hids.2.1).1 q t i ei y1
        | chain f => rw [hre] at z'; exact z'.elim
        | recover => rw [hre] at z'; exact z'.elim
    · exact h.ids.sublist (List.Sublist.append_left (List.sublist_cons_self ..) _)
    · have : (a.put o.dst v').defers = a.defers := by cases o.dst <;> rfl
      rw [this]; exact h.defs
  have same : ∀ v', vrel B ι e.v v' → K (a.put o.dst v') w := fun v' hv => fin v' ι w (Iota.le_refl ι) (fun _ q _ => q) (fun _ q q' => absurd q q') hv h.world
  unfold wpOp
  simp only [ho]
  rcases hle with ⟨hw, hv⟩ | ⟨hw, hr⟩
  · have hwant := wanted_ok (ops := ops) h3 h.frame (by rw [← hgd, ← s1]; exact hw)
    rw [hwant]
    simp only [Bool.false_eq_true, if_false]
    exact same undef (by rw [hv]; exact getT_undef)
  · have hwant := wanted_ok (ops := ops) h3 h.frame (by rw [← hgd, ← s1]; exact hw)
    rw [hwant]
    simp only [if_true]
    have hok := cOp_ok h1
    rw [hrn] at hr s2
    cases hre : op.run with
    | chain f => rw [hre] at hr; exact hr.elim
    | recover => rw [hre] at hr; exact hr.elim
    | pure f =>
      rw [hre] at hr hok s2
      simp only [LateRun, SameRun] at hr s2
      obtain ⟨v', q, r⟩ := hok B ι _ a e.v w h.frame (by rw [← s2]; exact hr)
      exact .inl (by unfold Oper.wp; rw [q]; exact same v' r)
    | read f =>
      rw [hre] at hr hok s2
      simp only [LateRun, SameRun] at hr s2
      obtain ⟨v', q, r⟩ := hok B W0 W0f H ι _ a e.v w h.frame h.world hb (by rw [← s2]; exact hr)
      exact .inl (by unfold Oper.wp; rw [q]; exact same v' r)
    | alloc f =>
      rw [hre] at hr hok s2
      simp only [LateRun, SameRun] at hr s2
      obtain ⟨i, o', mk', y1, y2, y3, y4, y5, y6, y7⟩ := hr
      obtain ⟨v', w', ob, L, q, hw', hL, hrel⟩ := hok B ι _ a o' mk' w h.frame (by rw [← s2]; exact y2)
      obtain ⟨t1, t2⟩ := hrel i y5
      refine .inl ?_
      unfold Oper.wp
      rw [q]
      refine fin v' (ι.put i L) w' (Iota.put_le y5) (fun j hj hn => ?_) (fun j hj hj' => ?_) (by rw [y3]; exact t2) ?_
      · unfold Iota.put; rw [if_neg (fun q => hn (by rw [y1, q]))]; exact hj
      · unfold Iota.put at hj'
        by_cases ej : j = i
        · subst ej; exact y6
        · rw [if_neg ej] at hj'; exact absurd hj hj'
      · refine h.world.place (o := o') y7 y5 hL hw'.1 hw'.2 fun z hz => ?_
        rw [y4] at hz
        simp at hz; subst hz; exact t1

/-- what may change memory, and now stands first -/
theorem DInv.runChain (h : DInv P ops B nt W0 W0f callf dsts H0 ι0 D Q late (x :: rest) seen T H ι a w listed) (hb : BRel B W0f W0) (hcalls : CallsOK P B W0 callf) (hl : Outs Q) (hfree : Free listed x)
    (hx : x.ins.run.isChain = true)
    (hK : ∀ T' H' ι' a' w', DInv P ops B nt W0 W0f callf dsts H0 ι0 D Q late rest seen T' H' ι' a' w' (listed.setIfInBounds x.at_ true) → K a' w') :
    wpOp P ops Q x.at_ K a w := by
  have hmem : x ∈ lateX late ++ x :: rest := by simp
  have hi := h.info x hmem
  obtain ⟨o, ho, hc⟩ := hi.comp
  obtain ⟨op, d, g, h1, h2, h3, h4⟩ := cInst_inv hc
  have hgd : x.ins.guard = g := by rw [h4]
  have hds : x.ins.dst = d := by rw [h4]
  have hrn : x.ins.run = op.run := by rw [h4]
  have hagr := h.agr hfree hmem
  obtain ⟨s1, s2⟩ := hi.same hagr
  have hpw := h.pw
  have hne := ne_of_mem hpw
  have hsub : ∀ y, y ∈ lateX late ++ rest → y ∈ lateX late ++ x :: rest := fun y hy => by
    simp at hy ⊢; rcases hy with q | q <;> simp [q]
  have hback : ∀ y ∈ lateX late ++ x :: rest, y.at_ ≠ x.at_ → y ∈ lateX late ++ rest := fun y hy hn => by
    simp at hy ⊢
    rcases hy with q | q | q
    · simp [q]
    · subst q; exact absurd rfl hn
    · simp [q]
  obtain ⟨r1, r2, r3, r4⟩ := h.order hfree hmem hsub hne hback
  have hpx : ∀ e ∈ late, PairOK e.x x := fun e he => (List.pairwise_append.1 hpw).2.2 e.x (List.mem_map_of_mem he) x (by simp)
  have hput : ∀ v, ∀ e ∈ late, Agr T (putT T x.ins.dst v) e.x.ins.slots := fun v e he => agr_put ((hpx e he).xy (hpx e he).back)
  have hli : ∀ e ∈ late, Info P ops nt dsts e.x := fun e he => h.info e.x (List.mem_append_left _ (List.mem_map_of_mem he))
  have fin : ∀ (v : AVal) (v' : Value) (H' : AHeap) (ι' : Iota) (w' : World), Later H ι H' ι' → vrel B ι' v v' → WRel B W0 H' ι' w' → (∀ e ∈ late, LateOK W0f H0.next T H' ι' e) →
      adrw W0f callf dsts (x :: rest) seen T D H = adrw W0f callf dsts rest seen (putT T x.ins.dst v) D H' → K (a.put o.dst v') w' := by
    intro v v' H' ι' w' hlt hv hw hlate hrun
    refine hK (putT T x.ins.dst v) H' ι' _ w' ?_
    refine ⟨hpw.sublist (List.Sublist.append_left (List.sublist_cons_self ..) _), fun y hy => h.info y (hsub y hy), r1, r2, r3, r4, ?_, ?_, ?_, h.ids, fun e he i hi => by have := h.idlt e he i hi; have := hlt.next; omega, ?_, h.later.trans hlt, hw, ?_, by rw [← hrun]; exact h.run, by rw [← hrun]; exact h.post⟩
    · have hf : FRel B ι' nt (putT (anyAll T (dstsOf (lateX late))) d v) (a.put o.dst v') := (h.frame.mono hlt.le).put h2 hv
      refine hf.weaken fun p => ?_
      by_cases hp : p ∈ dstsOf (lateX late)
      · exact .inl (getT_any hp)
      · refine .inr ?_
        rw [getT_nany hp, hds]
        rcases getT_put (anyAll T (dstsOf (lateX late))) d v p with ⟨q, qd⟩ | ⟨q, qd⟩
        · rw [q]
          rcases getT_put T d v p with ⟨t, _⟩ | ⟨_, t⟩
          · exact t
          · exact absurd qd t
        · rw [q, getT_nany hp]
          rcases getT_put T d v p with ⟨_, t⟩ | ⟨t, _⟩
          · exact absurd t qd
          · exact t
    · intro e he c hcd
      rw [← h.vals e he c hcd]
      rcases getT_put T x.ins.dst v c with ⟨_, q⟩ | ⟨q, _⟩
      · exact absurd q ((hpx e he).apart c hcd)
      · exact q
    · exact fun e he => (hlate e he).slots (hli e he) (hput v e he)
    · intro e he hwt
      refine h.inseen e he ?_
      rw [((hli e he).same (hput v e he)).1]
      exact hwt
    · have : (a.put o.dst v').defers = a.defers := by cases o.dst <;> rfl
      rw [this]; exact h.defs
  have hcons : adrw W0f callf dsts (x :: rest) seen T D H = (match wantedA T x.ins.guard with
      | some true => nextD (runA W0f callf T H x.ins.run) x T D seen dsts W0f (adrw W0f callf dsts rest)
      | some false => adrw W0f callf dsts rest seen (putT T x.ins.dst .undef) D H
      | none => .stuck) := rfl
  have hrun := h.run
  have hpost := h.post
  unfold wpOp
  simp only [ho]
  rw [hcons] at hrun
  cases hwt : wantedA T x.ins.guard with
  | none => rw [hwt] at hrun; exact absurd rfl hrun
  | some b =>
    rw [hwt] at hrun hcons
    have hwant := wanted_ok (ops := ops) h3 h.frame (by rw [← hgd, ← s1]; exact hwt)
    rw [hwant]
    cases b with
    | false =>
      simp only [Bool.false_eq_true, if_false]
      exact fin .undef undef H ι w (Later.refl H ι) getT_undef h.world h.lateok hcons
    | true =>
      simp only [if_true]
      simp only at hrun hcons
      have hok := cOp_ok h1
      rw [hrn] at hrun hcons s2 hx
      have hchain : x.ins.run.isChain = true := by rw [hrn]; exact hx
      cases hre : op.run with
      | pure f => rw [hre] at hx; simp [ARun.isChain] at hx
      | read f => rw [hre] at hx; simp [ARun.isChain] at hx
      | alloc f => rw [hre] at hx; simp [ARun.isChain] at hx
      | recover => rw [hre] at hrun; exact absurd rfl hrun
      | chain f =>
        rw [hre] at hrun hcons s2 hok
        simp only [SameRun] at s2
        simp only [runA] at hrun hcons
        have hT := s2 W0f callf H
        refine hok B W0 W0f callf H ι _ a w K Q h.frame h.world hb hcalls hl ?_ ?_ ?_ ?_
        · intro v H' ι' v' w' q hlt hw hv
          rw [← hT] at q
          rw [q] at hrun hcons
          simp only [nextD, hchain, cond_true] at hrun hcons
          cases hck : recheck W0f x.mask T H' seen with
          | false => rw [hck] at hrun; exact absurd rfl hrun
          | true =>
            rw [hck] at hcons
            refine fin v v' H' ι' w' hlt hv hw (fun e he => ?_) (by rw [hcons]; rfl)
            rcases h.lateok e he with z | ⟨z, z'⟩
            · exact .inl z
            · refine .inr ⟨z, ?_⟩
              have hsn := h.inseen e he z
              cases hre' : e.x.ins.run with
              | pure g => rw [hre'] at z'; exact z'
              | read g =>
                have := recheck_spec hck e.x e.v hsn (h.unbit hfree (List.mem_append_left _ (List.mem_map_of_mem he)))
                rw [hre'] at this
                exact again_read this
              | alloc g =>
                rw [hre'] at z'
                obtain ⟨i, o', mk', y1, y2, y3, y4, y5, y6, y7⟩ := z'
                exact ⟨i, o', mk', y1, y2, y3, by rw [hlt.keep i y7 y5]; exact y4, hlt.new i y7 y5, y6, by have := hlt.next; omega⟩
              | chain g => rw [hre'] at z'; exact z'.elim
              | recover => rw [hre'] at z'; exact z'.elim
        · intro v H' ι' v' w' q hlt hw hv
          rw [← hT] at q
          rw [q] at hcons
          simp only [nextD, hchain, cond_true] at hcons
          refine hpost _ _ _ _ hcons _ a w' ι' (h.later.trans hlt) hw ?_ (h.defs.mono (Iota.le_trans h.later.le hlt.le)) ⟨v', rfl, hv⟩
          refine (h.frame.mono hlt.le).weaken fun p => ?_
          by_cases hp : p ∈ dsts
          · exact .inl (getT_any hp)
          · refine .inr ?_
            rw [getT_nany hp, getT_nany]
            intro hm
            obtain ⟨z, hz, hd⟩ := mem_dstsOf.1 hm
            exact hp ((h.info z (List.mem_append_left _ hz)).dst p hd)
        · intro df df' q
          rw [← hT] at q
          rw [q] at hrun
          exact absurd rfl hrun
        · intro q
          rw [← hT] at q
          rw [q] at hrun
          exact absurd rfl hrun

end Am

namespace Am
open Go

variable {P : Program} {B nt : Nat} {ι ι' : Iota} {T T' : Tmps} {a a' : Act} {W0 w w' : World} {W0f : BaseF} {H H' : AHeap} {callf : CallF}
  {ops : Array Oper} {Q : Exit → Act → World → Prop} {K : Act → World → Prop} {D D' : List ADef}
variable {dsts : List Path} {H0 : AHeap} {ι0 : Iota} {late : List LE} {rest : List DInst} {seen : List (DInst × AVal)} {listed : Array Bool} {x : DInst}

theorem maskOf_bit (acc : List Nat) (j : Nat) : ∀ (es : List Edge) (s : Nat), (maskOf acc es s).testBit j = true ↔ s.testBit j = true ∨ ∃ e ∈ es, Region.binds .any e = true ∧ (j = e.on ∨ (acc.getD e.on 0).testBit j = true)
  | [], s => by simp [maskOf]
  | e :: es, s => by
    simp only [maskOf, maskOf_bit acc j es]
    cases hb : Region.binds .any e with
    | false => simp [hb]
    | true =>
      have : (Nat.lor (Nat.lor s (2 ^ e.on)) (acc.getD e.on 0)).testBit j = (s.testBit j || decide (e.on = j) || (acc.getD e.on 0).testBit j) := by
        show ((s ||| 2 ^ e.on) ||| (acc.getD e.on 0)).testBit j = _
        rw [Nat.testBit_or, Nat.testBit_or, Nat.testBit_two_pow]
      simp only [cond_true, this, Bool.or_eq_true, decide_eq_true_eq, List.mem_cons, exists_eq_or_imp, hb, true_and]
      constructor
      · rintro ((q | q) | q)
        · rcases q with q | q
          · exact .inl q
          · exact .inr (.inl (.inl q.symm))
        · exact .inr (.inl (.inr q))
        · exact .inr (.inr q)
      · rintro (q | (q | q) | q)
        · exact .inl (.inl (.inl q))
        · exact .inl (.inl (.inr q.symm))
        · exact .inl (.inr q)
        · exact .inr q

theorem masks_prefix : ∀ (l : List Oper) (acc : List Nat), ∃ t, masksFrom l acc = acc ++ t ∧ t.length = l.length
  | [], acc => ⟨[], by simp [masksFrom], rfl⟩
  | o :: os, acc => by
    obtain ⟨t, e, hl⟩ := masks_prefix os (acc ++ [maskOf acc o.after.toList 0])
    exact ⟨maskOf acc o.after.toList 0 :: t, by simp [masksFrom, e], by simp [hl]⟩

theorem masks_spec : ∀ (l : List Oper) (acc : List Nat) (i m : Nat), acc.length ≤ i → (masksFrom l acc)[i]? = some m → ∃ o, l[i - acc.length]? = some o ∧ m = maskOf ((masksFrom l acc).take i) o.after.toList 0
  | [], acc, i, m, hi, h => by
    simp only [masksFrom] at h
    have := (List.getElem?_eq_some_iff.1 h).1
    omega
  | o :: os, acc, i, m, hi, h => by
    simp only [masksFrom] at h ⊢
    by_cases e : i = acc.length
    · subst e
      obtain ⟨t, et, _⟩ := masks_prefix os (acc ++ [maskOf acc o.after.toList 0])
      rw [et] at h ⊢
      refine ⟨o, by simp, ?_⟩
      simp at h
      simp [← h]
    · obtain ⟨o', h1, h2⟩ := masks_spec os _ i m (by simp; omega) h
      refine ⟨o', ?_, h2⟩
      obtain ⟨k, rfl⟩ : ∃ k, i = acc.length + 1 + k := ⟨i - (acc.length + 1), by omega⟩
      simp at h1
      rw [show acc.length + 1 + k - acc.length = k + 1 by omega]
      simpa [show acc.length + 1 + k - (acc.length + 1) = k by omega] using h1

theorem mem_ready {i : Nat} : i ∈ Region.ready .any ops listed ↔ i < ops.size ∧ listed.getD i true = false ∧ ∃ o, ops[i]? = some o ∧ ∀ e ∈ o.after.toList, Region.binds .any e = true → listed.getD e.on false = true := by
  unfold Region.ready
  rw [List.mem_filter]
  simp only [List.mem_range, Bool.and_eq_true, Bool.not_eq_true']
  refine ⟨fun ⟨h1, h2, h3⟩ => ⟨h1, h2, ?_⟩, fun ⟨h1, h2, o, h3, h4⟩ => ⟨h1, h2, ?_⟩⟩
  · cases ho : ops[i]? with
    | none => rw [ho] at h3; simp at h3
    | some o =>
      rw [ho] at h3
      simp only [Option.map_some, Option.getD_some, Array.all_eq_true', Bool.or_eq_true, Bool.not_eq_true'] at h3
      refine ⟨o, rfl, fun e he hb => ?_⟩
      rcases h3 e (Array.mem_toList_iff.1 he) with q | q
      · rw [hb] at q; simp at q
      · exact q
  · rw [h3]
    simp only [Option.map_some, Option.getD_some, Array.all_eq_true', Bool.or_eq_true, Bool.not_eq_true']
    intro e he
    cases hb : Region.binds .any e with
    | false => exact .inl rfl
    | true => exact .inr (h4 e (Array.mem_toList_iff.2 he) hb)

theorem DInv.free (h : DInv P ops B nt W0 W0f callf dsts H0 ι0 D Q late rest seen T H ι a w listed) (hx : x ∈ lateX late ++ rest) (hr : x.at_ ∈ Region.ready .any ops listed) : Free listed x := by
  intro j hj
  obtain ⟨_, _, o, ho, he⟩ := mem_ready.1 hr
  obtain ⟨o', ho', hm⟩ := masks_spec ops.toList [] x.at_ x.mask (by simp) (h.info x hx).mask
  have : o' = o := by
    have : ops[x.at_]? = some o' := by simpa using ho'
    rw [ho] at this; simpa using this.symm
  subst this
  rw [hm, maskOf_bit] at hj
  rcases hj with q | ⟨e, he', hb, q⟩
  · simp at q
  · have hl := he e he' hb
    rcases q with q | q
    · rw [q]; exact hl
    · cases hg : ((masksFrom ops.toList []).take x.at_)[e.on]? with
      | none => rw [List.getD_eq_getElem?_getD, hg] at q; simp at q
      | some m =>
        rw [List.getD_eq_getElem?_getD, hg] at q
        rw [List.getElem?_take] at hg
        split at hg
        · exact h.closed e.on m hl hg j q
        · exact absurd hg (by simp)

theorem DInv.some_ready (h : DInv P ops B nt W0 W0f callf dsts H0 ι0 D Q late rest seen T H ι a w listed) (hn : lateX late ++ rest ≠ []) : Region.ready .any ops listed ≠ [] := by
  obtain ⟨x, t, e⟩ : ∃ x t, lateX late ++ rest = x :: t := by
    cases q : lateX late ++ rest with
    | nil => exact absurd q hn
    | cons x t => exact ⟨x, t, rfl⟩
  have hx : x ∈ lateX late ++ rest := by rw [e]; simp
  have hi := h.info x hx
  have hfree : Free listed x := by
    intro j hj
    have hlt := hi.small j hj
    cases hl : listed.getD j false with
    | true => rfl
    | false =>
      rw [← getD_listed (by rw [h.sz]; exact hlt)] at hl
      obtain ⟨z, hz, hzj⟩ := h.unlof j hlt hl
      rw [e] at hz
      rcases List.mem_cons.1 hz with q | q
      · subst q; rw [← hzj, hi.self] at hj; simp at hj
      · have hp := h.pw
        rw [e] at hp
        have := ((List.pairwise_cons.1 hp).1 z q).back
        rw [hzj, hj] at this
        simp at this
  obtain ⟨o, ho, _⟩ := hi.comp
  have : x.at_ ∈ Region.ready .any ops listed := by
    refine mem_ready.2 ⟨hi.lt, h.unl x hx, o, ho, fun ed hed hb => hfree _ ?_⟩
    obtain ⟨o', ho', hm⟩ := masks_spec ops.toList [] x.at_ x.mask (by simp) hi.mask
    have : o' = o := by
      have : ops[x.at_]? = some o' := by simpa using ho'
      rw [ho] at this; simpa using this.symm
    subst this
    rw [hm, maskOf_bit]
    exact .inr ⟨ed, hed, hb, .inl rfl⟩
  intro q
  rw [q] at this
  simp at this

theorem DInv.done (h : DInv P ops B nt W0 W0f callf dsts H0 ι0 D Q late rest seen T H ι a w listed) (hr : Region.ready .any ops listed = []) : Q .normal a w := by
  have hn : lateX late ++ rest = [] := by
    cases q : lateX late ++ rest with
    | nil => rfl
    | cons y t => exact absurd hr (h.some_ready (by rw [q]; simp))
  have h1 : late = [] := by simpa [lateX] using (List.append_eq_nil_iff.1 hn).1
  have h2 := (List.append_eq_nil_iff.1 hn).2
  subst h1
  subst h2
  exact h.post _ _ _ _ rfl .normal a w ι h.later h.world h.frame (h.defs.mono h.later.le) rfl

theorem wpAny_ok (hb : BRel B W0f W0) (hcalls : CallsOK P B W0 callf) (hl : Outs Q) : ∀ (fuel : Nat) (late : List LE) (rest : List DInst) (seen : List (DInst × AVal)) (T : Tmps) (H : AHeap) (ι : Iota) (a : Act) (w : World) (listed : Array Bool),
    DInv P ops B nt W0 W0f callf dsts H0 ι0 D Q late rest seen T H ι a w listed → late.length + rest.length ≤ fuel → wpAny P .any ops Q fuel listed a w
  | 0, late, rest, seen, T, H, ι, a, w, listed, h, hlen => by
    have hnil : Region.ready .any ops listed = [] := by
      cases q : Region.ready .any ops listed with
      | nil => rfl
      | cons i t =>
        obtain ⟨h1, h2, _⟩ := mem_ready.1 (by rw [q]; exact List.mem_cons_self .. : i ∈ Region.ready .any ops listed)
        obtain ⟨z, hz, _⟩ := h.unlof i h1 h2
        have : (lateX late ++ rest).length = 0 := by rw [List.length_append]; simp only [lateX, List.length_map]; omega
        rw [List.length_eq_zero_iff.1 this] at hz
        simp at hz
    exact ⟨hnil, h.done hnil⟩
  | fuel + 1, late, rest, seen, T, H, ι, a, w, listed, h, hlen => by
    refine ⟨h.done, fun i hi => ?_⟩
    obtain ⟨h1, h2, _⟩ := mem_ready.1 hi
    obtain ⟨x, hx, rfl⟩ := h.unlof i h1 h2
    have hfree := h.free hx hi
    have ih := wpAny_ok hb hcalls hl fuel
    have late_case : ∀ (late : List LE) (rest : List DInst) (seen : List (DInst × AVal)) (T : Tmps) (H : AHeap),
        DInv P ops B nt W0 W0f callf dsts H0 ι0 D Q late rest seen T H ι a w listed → late.length + rest.length ≤ fuel + 1 → x ∈ lateX late →
        wpOp P ops Q x.at_ (wpAny P .any ops Q fuel (listed.setIfInBounds x.at_ true)) a w := by
      intro late rest seen T H h hlen hx
      obtain ⟨e, he, rfl⟩ := List.mem_map.1 hx
      obtain ⟨l1, l2, rfl⟩ := List.append_of_mem he
      refine h.runLate hb hfree fun ι' a' w' h' => ih _ _ _ _ _ _ _ _ _ h' ?_
      simp at hlen ⊢
      omega
    have go : ∀ (rest : List DInst) (late : List LE) (seen : List (DInst × AVal)) (T : Tmps) (H : AHeap),
        DInv P ops B nt W0 W0f callf dsts H0 ι0 D Q late rest seen T H ι a w listed → late.length + rest.length ≤ fuel + 1 → x ∈ rest →
        wpOp P ops Q x.at_ (wpAny P .any ops Q fuel (listed.setIfInBounds x.at_ true)) a w := by
      intro rest
      induction rest with
      | nil => intro late seen T H _ _ hx; simp at hx
      | cons y r ihr =>
        intro late seen T H h hlen hx
        cases hy : y.ins.run.isChain with
        | true =>
          have : x = y := by
            rcases List.mem_cons.1 hx with q | q
            · exact q
            · have hp := (List.pairwise_cons.1 (List.pairwise_append.1 h.pw).2.1).1 x q
              have := hp.chain hy
              rw [h.unbit hfree (z := y) (by simp)] at this
              simp at this
          subst this
          refine h.runChain hb hcalls hl hfree hy fun T' H' ι' a' w' h' => ih _ _ _ _ _ _ _ _ _ h' ?_
          simp at hlen ⊢
          omega
        | false =>
          obtain ⟨e, rfl, seen', T', H', h'⟩ := h.more hy
          rcases List.mem_cons.1 hx with q | q
          · exact late_case _ _ _ _ _ h' (by simp at hlen ⊢; omega) (by simp [lateX, q])
          · exact ihr _ _ _ _ h' (by simp at hlen ⊢; omega) q
    rcases List.mem_append.1 hx with q | q
    · exact late_case _ _ _ _ _ h hlen q
    · exact go _ _ _ _ _ h hlen q

/-! how it begins -/
theorem firstWhere_perm {p : DInst → Bool} : ∀ {l acc : List DInst} {x : DInst} {r : List DInst}, firstWhere p l acc = some (x, r) → (x :: r).Perm (acc ++ l)
  | [], _, _, _, h => by simp [firstWhere] at h
  | y :: ys, acc, x, r, h => by
    simp only [firstWhere] at h
    cases hp : p y with
    | true =>
      rw [hp] at h
      simp at h
      obtain ⟨rfl, rfl⟩ := h
      exact (List.perm_middle (l₁ := acc.reverse) (l₂ := ys)).symm.trans ((List.reverse_perm acc).append_right _)
    | false =>
      rw [hp] at h
      simp only [cond_false] at h
      exact (firstWhere_perm h).trans (List.perm_middle (l₁ := acc) (l₂ := ys)).symm

theorem early_perm : ∀ {n done : Nat} {l l' : List DInst}, early n done l = some l' → l'.Perm l
  | 0, _, [], _, h => by simp [early] at h; subst h; exact .nil
  | 0, _, _ :: _, _, h => by simp [early] at h
  | n + 1, _, [], _, h => by simp [early] at h; subst h; exact .nil
  | n + 1, done, y :: ys, l', h => by
    simp only [early] at h
    split at h
    · rename_i x r hw
      split at h
      case h_2 => exact absurd h (by simp)
      rename_i l2 he
      simp at h; subst h
      exact ((early_perm he).cons x).trans (firstWhere_perm hw)
    · split at h
      case h_2 => exact absurd h (by simp)
      rename_i x r hw
      split at h
      case h_2 => exact absurd h (by simp)
      rename_i l2 he
      simp at h; subst h
      exact ((early_perm he).cons x).trans (firstWhere_perm hw)

theorem zipD_mem : ∀ {is : List AInst} {ms : List Nat} {k : Nat} {x : DInst}, x ∈ zipD is ms k → ∃ j, is[j]? = some x.ins ∧ ms[j]? = some x.mask ∧ x.at_ = k + j
  | [], _, _, _, h => by simp [zipD] at h
  | _ :: _, [], _, _, h => by simp [zipD] at h
  | i :: is, m :: ms, k, x, h => by
    simp only [zipD, List.mem_cons] at h
    rcases h with rfl | h
    · exact ⟨0, by simp⟩
    · obtain ⟨j, h1, h2, h3⟩ := zipD_mem h
      exact ⟨j + 1, by simpa using h1, by simpa using h2, by omega⟩

theorem zipD_all : ∀ {is : List AInst} {ms : List Nat} {k j : Nat}, j < is.length → j < ms.length → ∃ x ∈ zipD is ms k, x.at_ = k + j
  | [], _, _, _, h, _ => by simp at h
  | _ :: _, [], _, _, _, h => by simp at h
  | i :: is, m :: ms, k, 0, _, _ => ⟨⟨i, k, m⟩, by simp [zipD], rfl⟩
  | i :: is, m :: ms, k, j + 1, h, h' => by
    obtain ⟨x, hx, e⟩ := zipD_all (is := is) (ms := ms) (k := k + 1) (j := j) (by simpa using h) (by simpa using h')
    exact ⟨x, by simp [zipD, hx], by omega⟩

theorem mapOpt_spec {α β : Type} {f : α → Option β} : ∀ {l : List α} {r : List β}, mapOpt f l = some r → r.length = l.length ∧ ∀ (j : Nat) (y : β), r[j]? = some y → ∃ x, l[j]? = some x ∧ f x = some y
  | [], r, h => by have := mapOpt_nil h; subst this; simp
  | x :: xs, r, h => by
    obtain ⟨y, ys, h1, h2, rfl⟩ := mapOpt_cons h
    obtain ⟨h3, h4⟩ := mapOpt_spec h2
    refine ⟨by simp [h3], fun j z hj => ?_⟩
    cases j with
    | zero => simp at hj; subst hj; exact ⟨x, by simp, h1⟩
    | succ j => simp at hj; simpa using h4 j z hj

theorem drw_ok {id : Nat} {l : List DInst} (hmo : P.follows .mixedOrders = true) (hb : BRel B W0f W0) (hcalls : CallsOK P B W0 callf) (hl : Outs Q) (hc : cDrw P nt ops.toList = some (.drw l dsts))
    (hf : FRel B ι nt T a) (hd : DRel B ι D a.defers) (hw : WRel B W0 H ι w) (hns : adrw W0f callf dsts l [] T D H ≠ .stuck) (hp : Post B W0 nt H ι (adrw W0f callf dsts l [] T D H) Q) :
    (Code.region id ops true).wp P Q a w := by
  unfold cDrw at hc
  split at hc
  case h_2 => exact absurd hc (by simp)
  rename_i is his
  split at hc
  case h_2 => exact absurd hc (by simp)
  rename_i l' hl'
  cases hk : drwOK ops.toList.length l' with
  | false => rw [hk] at hc; simp at hc
  | true =>
    rw [hk] at hc
    simp at hc
    obtain ⟨rfl, rfl⟩ := hc
    simp only [drwOK, Bool.and_eq_true, List.all_eq_true, Bool.not_eq_true'] at hk
    obtain ⟨⟨hlen, hall⟩, hpairs⟩ := hk
    have hlen' : l'.length = ops.size := by have := Nat.eq_of_beq_eq_true hlen; simpa using this
    have hperm := early_perm hl'
    obtain ⟨hm1, hm2⟩ := mapOpt_spec his
    obtain ⟨t, ht, htl⟩ := masks_prefix ops.toList []
    have hml : (masksFrom ops.toList []).length = ops.size := by rw [ht]; simp [htl]
    refine wp_region_any hmo ?_
    refine wpAny_ok (nt := nt) (dsts := dstsOf l') (H0 := H) (ι0 := ι) (D := D) hb hcalls hl ops.size [] l' [] T H ι a _ _ ⟨?_, ?_, ?_, ?_, ?_, ?_, ?_, ?_, ?_, ?_, ?_, ?_, ?_, ?_, ?_, ?_, ?_⟩ (by simp [hlen'])
    · simpa [lateX] using pairsOK_spec hpairs
    · intro x hx
      have hx : x ∈ l' := by simpa [lateX] using hx
      obtain ⟨⟨⟨h1, h2⟩, h3⟩, h4⟩ := hall x hx
      obtain ⟨j, j1, j2, j3⟩ := zipD_mem (hperm.mem_iff.1 hx)
      have j3 : x.at_ = j := by omega
      have h4' : x.mask < 2 ^ ops.size := by have := Nat.le_of_ble_eq_true h4; simp at this; exact this
      refine ⟨by have := Nat.le_of_ble_eq_true h1; simp at this; exact this, fun d hd' => readOK_spec h2 h3 d hd', h3, fun q hq => ?_, ?_, by rw [j3]; exact j2, fun d hd' => mem_dstsOf.2 ⟨x, hx, hd'⟩⟩
      · rcases Nat.lt_or_ge q ops.size with h | h
        · exact h
        · have := Nat.testBit_lt_two_pow (Nat.lt_of_lt_of_le h4' (Nat.pow_le_pow_right (by omega) h))
          rw [hq] at this
          simp at this
      · obtain ⟨o, ho, hco⟩ := hm2 j x.ins j1
        exact ⟨o, by rw [j3]; simpa using ho, hco⟩
    · simp
    · intro x hx
      have hx : x ∈ l' := by simpa [lateX] using hx
      have h1 : x.at_ < ops.size := by have := Nat.le_of_ble_eq_true (hall x hx).1.1.1; simp at this; exact this
      simp [h1]
    · intro i hi _
      obtain ⟨x, hx, e⟩ := zipD_all (is := is) (ms := masksFrom ops.toList []) (k := 0) (j := i) (by rw [hm1]; simpa using hi) (by rw [hml]; exact hi)
      exact ⟨x, by simpa [lateX] using hperm.mem_iff.2 hx, by omega⟩
    · intro i m hi
      exfalso
      simp [Array.getD_eq_getD_getElem?, Array.getElem?_replicate] at hi
      split at hi <;> simp at hi
    · exact hf
    · intro e he; simp at he
    · intro e he; simp at he
    · exact .nil
    · intro e he; simp at he
    · intro e he; simp at he
    · exact Later.refl H ι
    · exact hw.world rfl ⟨rfl, rfl⟩
    · exact hd
    · exact hns
    · exact hp

end Am

namespace Am
open Go

variable {P : Program} {B nt : Nat} {ι ι' : Iota} {T T' : Tmps} {a a' : Act} {W0 w w' : World} {W0f : BaseF} {H H' : AHeap} {callf : CallF}
  {ops : Array Oper} {Q : Exit → Act → World → Prop} {K : Act → World → Prop} {D D' : List ADef}

theorem letsOut_then (_ : Outs Q) : Outs (Exit.then K Q) := trivial
theorem letsOut_block {id : Nat} (_ : Outs Q) : Outs (Exit.inBlock id Q) := trivial

theorem then_ns {r : CRes} {k : Tmps → List ADef → AHeap → CRes} (h : thenC r k ≠ .stuck) : r ≠ .stuck := by
  intro e; subst e; exact h rfl

theorem then_post {r : CRes} {k : Tmps → List ADef → AHeap → CRes} (hp : Post B W0 nt H ι (thenC r k) Q) (hns : thenC r k ≠ .stuck)
    (hk : ∀ T' D' H' ι' a' w', r = .res .normal T' D' H' → Later H ι H' ι' → WRel B W0 H' ι' w' → FRel B ι' nt T' a' → DRel B ι' D' a'.defers → k T' D' H' ≠ .stuck → Post B W0 nt H' ι' (k T' D' H') Q → K a' w') :
    Post B W0 nt H ι r (Exit.then K Q) := by
  intro e T' D' H' hr e' a' w' ι' hl hw hf hd he
  subst hr
  cases e with
  | normal =>
    simp only [ExRel] at he
    subst he
    exact hk T' D' H' ι' a' w' rfl hl hw hf hd hns (hp.later hl)
  | exit id =>
    simp only [ExRel] at he
    subst he
    exact hp _ _ _ _ rfl _ a' w' ι' hl hw hf hd rfl
  | ret =>
    simp only [ExRel] at he
    subst he
    exact hp _ _ _ _ rfl _ a' w' ι' hl hw hf hd rfl
  | pan v =>
    obtain ⟨v', rfl, hv⟩ := he
    exact hp _ _ _ _ rfl _ a' w' ι' hl hw hf hd ⟨v', rfl, hv⟩

theorem block_post {id : Nat} {r : CRes} (hp : Post B W0 nt H ι (blockC id r) Q) : Post B W0 nt H ι r (Exit.inBlock id Q) := by
  intro e T' D' H' hr e' a' w' ι' hl hw hf hd he
  subst hr
  cases e with
  | normal =>
    simp only [ExRel] at he
    subst he
    exact hp _ _ _ _ rfl _ a' w' ι' hl hw hf hd rfl
  | exit i =>
    simp only [ExRel] at he
    subst he
    simp only [Exit.inBlock]
    by_cases hi : i = id
    · rw [if_pos hi]
      refine hp .normal T' D' H' ?_ _ a' w' ι' hl hw hf hd rfl
      simp [blockC, hi]
    · rw [if_neg hi]
      refine hp (.exit i) T' D' H' ?_ _ a' w' ι' hl hw hf hd rfl
      have : Nat.beq i id = false := by rw [Tree.beq_eq]; simp [hi]
      simp [blockC, this]
  | ret =>
    simp only [ExRel] at he
    subst he
    exact hp _ _ _ _ rfl _ a' w' ι' hl hw hf hd rfl
  | pan v =>
    obtain ⟨v', rfl, hv⟩ := he
    exact hp _ _ _ _ rfl _ a' w' ι' hl hw hf hd ⟨v', rfl, hv⟩

theorem block_ns {id : Nat} {r : CRes} (h : blockC id r ≠ .stuck) : r ≠ .stuck := by
  intro e; subst e; exact h rfl

theorem cDrw_form {os : List Oper} {c : ACode} (h : cDrw P nt os = some c) : ∃ l dsts, c = .drw l dsts := by
  unfold cDrw at h
  split at h
  case h_2 => exact absurd h (by simp)
  split at h
  case h_2 => exact absurd h (by simp)
  rename_i l' _
  cases hk : drwOK os.length l' with
  | false => rw [hk] at h; simp at h
  | true => rw [hk] at h; simp at h; exact ⟨_, _, h.symm⟩

def CodeOK (P : Program) (B nt : Nat) (W0 : World) (c : Code) (g : Tmps → List ADef → AHeap → CRes) : Prop :=
  ∀ (T : Tmps) (D : List ADef) (H : AHeap) (ι : Iota) (a : Act) (w : World) (Q : Exit → Act → World → Prop), FRel B ι nt T a → DRel B ι D a.defers → WRel B W0 H ι w → Outs Q →
    g T D H ≠ .stuck → Post B W0 nt H ι (g T D H) Q → c.wp P Q a w

theorem loop_ok {c : Code} {g : Tmps → List ADef → AHeap → CRes} (hc : CodeOK P B nt W0 c g) : ∀ (n : Nat) (T : Tmps) (D : List ADef) (H : AHeap) (ι : Iota) (a : Act) (w : World), FRel B ι nt T a → DRel B ι D a.defers → WRel B W0 H ι w → Outs Q →
    loopC g n T D H ≠ .stuck → Post B W0 nt H ι (loopC g n T D H) Q → Code.rounds P c Q n a w
  | 0, T, D, H, ι, a, w, _, _, _, _, hns, _ => absurd rfl hns
  | n + 1, T, D, H, ι, a, w, hf, hd, hw, hl, hns, hp => by
    have e : loopC g (n + 1) T D H = thenC (g T D H) (loopC g n) := rfl
    rw [e] at hns hp
    rw [rounds_succ]
    exact hc T D H ι a w _ hf hd hw (letsOut_then hl) (then_ns hns) (then_post hp hns fun T' D' H' ι' a' w' _ hlt hw' hf' hd' hns' hp' => loop_ok hc n T' D' H' ι' a' w' hf' hd' hw' hl hns' hp')

theorem acode_ok (hmo : P.follows .mixedOrders = true) (hb : BRel B W0f W0) (hcalls : CallsOK P B W0 callf) (n : Nat) : ∀ c : Code, CodeOK P B nt W0 c (acode W0f callf n (cCode P nt c))
  | .skip => fun T D H ι a w Q hf hd hw hl hns hp => wp_skip (hp _ _ _ _ rfl .normal a w ι (Later.refl H ι) hw hf hd rfl)
  | .exit id => fun T D H ι a w Q hf hd hw hl hns hp => wp_exit (hp _ _ _ _ rfl _ a w ι (Later.refl H ι) hw hf hd rfl)
  | .ret => fun T D H ι a w Q hf hd hw hl hns hp => wp_ret (hp _ _ _ _ rfl _ a w ι (Later.refl H ι) hw hf hd rfl)
  | .region id ops false => fun T D H ι a w Q hf hd hw hl hns hp => by
    simp only [cCode, cReg] at hns hp
    cases hm : mapOpt (cInst P nt ops.toList) ops.toList with
    | none => rw [hm] at hns; exact absurd rfl hns
    | some is => rw [hm] at hns hp; exact seg_ok hb hcalls hl hm hf hd hw hns hp
  | .region id ops true => fun T D H ι a w Q hf hd hw hl hns hp => by
    simp only [cCode, cReg] at hns hp
    cases hm : cDrw P nt ops.toList with
    | none => rw [hm] at hns; exact absurd rfl hns
    | some c =>
      rw [hm] at hns hp
      obtain ⟨l, dsts, rfl⟩ := cDrw_form hm
      exact drw_ok hmo hb hcalls hl hm hf hd hw hns hp
  | .seq x y => fun T D H ι a w Q hf hd hw hl hns hp => by
    have ihx := acode_ok hmo hb hcalls n x
    have ihy := acode_ok hmo hb hcalls n y
    have e : acode W0f callf n (cCode P nt (.seq x y)) T D H = thenC (acode W0f callf n (cCode P nt x) T D H) (acode W0f callf n (cCode P nt y)) := rfl
    rw [e] at hns hp
    exact wp_seq (ihx T D H ι a w _ hf hd hw (letsOut_then hl) (then_ns hns) (then_post hp hns fun T' D' H' ι' a' w' _ hlt hw' hf' hd' hns' hp' => ihy T' D' H' ι' a' w' Q hf' hd' hw' hl hns' hp'))
  | .cond c x y => fun T D H ι a w Q hf hd hw hl hns hp => by
    have ihx := acode_ok hmo hb hcalls n x
    have ihy := acode_ok hmo hb hcalls n y
    simp only [cCode] at hns hp
    cases hc : cOpd nt c with
    | none => rw [hc] at hns; exact absurd rfl hns
    | some o =>
      rw [hc] at hns hp
      have e : acode W0f callf n (.cond o (cCode P nt x) (cCode P nt y)) T D H = condC (ev T o) (acode W0f callf n (cCode P nt x) T D H) (acode W0f callf n (cCode P nt y) T D H) := rfl
      simp only at hns hp
      rw [e] at hns hp
      have hv := cOpd_ok hf hc
      cases hev : ev T o with
      | bool b =>
        rw [hev] at hns hp hv
        cases b with
        | true => exact wp_cond_true hv (ihx T D H ι a w Q hf hd hw hl hns hp)
        | false => exact wp_cond_false hv (ihy T D H ι a w Q hf hd hw hl hns hp)
      | _ => rw [hev] at hns; exact absurd rfl hns
  | .block id c => fun T D H ι a w Q hf hd hw hl hns hp => by
    have ih := acode_ok hmo hb hcalls n c
    have e : acode W0f callf n (cCode P nt (.block id c)) T D H = blockC id (acode W0f callf n (cCode P nt c) T D H) := rfl
    rw [e] at hns hp
    exact wp_block (ih T D H ι a w _ hf hd hw (letsOut_block hl) (block_ns hns) (block_post hp))
  | .loop c => fun T D H ι a w Q hf hd hw hl hns hp => by
    have ih := acode_ok hmo hb hcalls n c
    have e : acode W0f callf n (cCode P nt (.loop c)) T D H = loopC (acode W0f callf n (cCode P nt c)) n T D H := rfl
    rw [e] at hns hp
    exact wp_loop_rounds n (loop_ok ih n T D H ι a w hf hd hw hl hns hp)
  | .goto _ => fun T D H ι a w Q hf hd hw hl hns hp => absurd rfl hns
  | .label _ => fun T D H ι a w Q hf hd hw hl hns hp => absurd rfl hns
  | .rangeFunc _ _ _ _ => fun T D H ι a w Q hf hd hw hl hns hp => absurd rfl hns
  | .scope _ => fun T D H ι a w Q hf hd hw hl hns hp => absurd rfl hns
  | .refuse _ => fun T D H ι a w Q hf hd hw hl hns hp => absurd rfl hns

end Am

namespace Am
open Go

variable {P : Program} {B nt : Nat} {ι ι' : Iota} {T T' : Tmps} {a a' : Act} {W0 w w' : World} {W0f : BaseF} {H H' : AHeap} {callf : CallF}
  {ops : Array Oper} {Q : Exit → Act → World → Prop} {K : Act → World → Prop} {D D' : List ADef}

theorem getP_leaf (p : Path) : Tree.getP p (.leaf : Tree AVal) = none := by
  induction p with
  | here => rfl
  | lft p ih => exact ih
  | rgt p ih => exact ih

theorem getT_fill (i : Nat) : ∀ (vs : List AVal) (n : Nat) (T : Tmps), getT (fillArgs vs n T) (.of i) = if n ≤ i ∧ i < n + vs.length then (vs[i - n]?).getD .undef else getT T (.of i)
  | [], n, T => by simp [fillArgs]; intro h h'; omega
  | v :: vs, n, T => by
    simp only [fillArgs, List.length_cons]
    rw [getT_fill i vs]
    by_cases e : i = n
    · subst e
      rw [if_neg (by omega), if_pos (by omega), getT_setT_same]
      simp
    · by_cases h : n + 1 ≤ i ∧ i < n + 1 + vs.length
      · rw [if_pos h, if_pos (by omega)]
        obtain ⟨k, rfl⟩ : ∃ k, i = n + 1 + k := ⟨i - (n + 1), by omega⟩
        rw [show n + 1 + k - n = k + 1 by omega, show n + 1 + k - n.succ = k by omega]
        simp
      · rw [if_neg h, if_neg (by omega), getT_setT_ne _ _ (fun q => e (Path.of_inj q))]

theorem frame_ok {args : List AVal} {args' : Array Value} (ha : lrel B ι args args'.toList) (hl : args.length ≤ nt) :
    FRel B ι nt (frameOf args) { tmps := args' ++ Array.replicate (nt - args'.size) undef, defers := [] } := by
  have hsz : args'.size = args.length := by have := lrel_length ha; simpa using this
  refine ⟨by simp; omega, fun i hi => ?_⟩
  unfold frameOf
  rw [getT_fill]
  simp only [Array.getD_eq_getD_getElem?]
  by_cases h : i < args.length
  · rw [if_pos (by omega)]
    obtain ⟨v, hv⟩ : ∃ v, args[i]? = some v := ⟨args[i], List.getElem?_eq_getElem h⟩
    obtain ⟨v', hv', hr⟩ := lrel_getD ha hv
    rw [Array.getElem?_append_left (by omega)]
    rw [show i - 0 = i by omega, hv]
    have : args'[i]? = some v' := by simpa using hv'
    rw [this]
    exact hr
  · rw [if_neg (by omega), Array.getElem?_append_right (by omega), Array.getElem?_replicate, if_pos (by omega)]
    unfold getT
    rw [getP_leaf]
    exact getT_undef

theorem res1_ok (hb : BRel B W0f W0) (hf : FRel B ι nt T a) (hw : WRel B W0 H ι w) {rv : ResultVar} {r : ARV} (hc : cRV P nt rv = some r) {v : AVal} (h : res1 W0f T H r = some v) :
    ∃ v', ((match rv with
      | .tmp t => pure (a.tmps.getD t undef)
      | .cell b t => do loadVar t (← asAddr (a.tmps.getD b undef)) : Sem Value)).run P w = .ok v' w ∧ vrel B ι v v' := by
  cases rv with
  | tmp t =>
    simp only [cRV] at hc
    cases hlt : Nat.blt t nt with
    | false => rw [hlt] at hc; simp at hc
    | true =>
      rw [hlt] at hc
      simp at hc; subst hc
      simp only [res1, Option.some.injEq] at h
      subst h
      exact ⟨_, by simp, hf.val t (Nat.le_of_ble_eq_true hlt)⟩
  | cell b t =>
    simp only [cRV] at hc
    cases hlt : Nat.blt b nt with
    | false => rw [hlt] at hc; simp at hc
    | true =>
      rw [hlt] at hc
      simp only [cond_true] at hc
      have hx := hf.val b (Nat.le_of_ble_eq_true hlt)
      split at hc
      · rename_i hs
        simp at hc; subst hc
        simp only [res1, xLoad1] at h
        split at h
        case h_2 => exact absurd h (by simp)
        rename_i s e
        rw [e] at hx
        obtain ⟨z, ez, rz⟩ := vrel_ptr hx
        obtain ⟨v', h1, h2⟩ := read1_ok hw hb rz h
        refine ⟨v', ?_, h2⟩
        simp only [ez]
        simp [asAddr, loadVar, (run_isAgg hs).1, h1]
      · rename_i n hs
        simp at hc; subst hc
        simp only [res1, xLoadN] at h
        split at h
        case h_2 => exact absurd h (by simp)
        rename_i s e
        rw [e] at hx
        obtain ⟨z, ez, rz⟩ := vrel_ptr hx
        cases hr : readN W0f H s n with
        | none => simp [hr, aggO] at h
        | some l =>
          simp [hr, aggO] at h; subst h
          obtain ⟨vs, h1, h2⟩ := loadCells_ok (P := P) hw hb rz hr
          obtain ⟨g1, g2⟩ := run_isAgg (w := w) hs
          have g3 := run_size (P := P) (w := w) (g2 n rfl)
          refine ⟨.agg vs.toArray, ?_, ⟨_, rfl, by simpa using h1⟩⟩
          simp only [ez]
          simp [asAddr, loadVar, g1, g3, h2 w rfl]
      · exact absurd hc (by simp)

theorem resL_ok (hb : BRel B W0f W0) (hf : FRel B ι nt T a) (hw : WRel B W0 H ι w) : ∀ {l : List ResultVar} {rs : List ARV} {vs : List AVal}, mapOpt (cRV P nt) l = some rs → resA W0f T H rs = some vs →
    ∃ vs', (l.mapM (fun rv => (match rv with
      | .tmp t => pure (a.tmps.getD t undef)
      | .cell b t => do loadVar t (← asAddr (a.tmps.getD b undef)) : Sem Value))).run P w = .ok vs' w ∧ lrel B ι vs vs'
  | [], rs, vs, hc, h => by
    have := mapOpt_nil hc; subst this
    simp [resA] at h; subst h
    exact ⟨[], by simp, rfl⟩
  | rv :: l, rs, vs, hc, h => by
    obtain ⟨r, rs', h1, h2, rfl⟩ := mapOpt_cons hc
    simp only [resA] at h
    cases hv : res1 W0f T H r with
    | none => rw [hv] at h; simp at h
    | some v =>
      cases hvs : resA W0f T H rs' with
      | none => rw [hv, hvs] at h; simp at h
      | some us =>
        rw [hv, hvs] at h
        simp at h; subst h
        obtain ⟨v', g1, g2⟩ := res1_ok hb hf hw h1 hv
        obtain ⟨us', g3, g4⟩ := resL_ok hb hf hw h2 hvs
        refine ⟨v' :: us', ?_, lrel_cons.2 ⟨v', us', rfl, g2, g4⟩⟩
        rw [List.mapM_cons]
        simp only [Sem.run_bind, g1, Result.andThen_ok, g3, Sem.run_pure]

theorem results_ok (hb : BRel B W0f W0) (hf : FRel B ι nt T a) (hw : WRel B W0 H ι w) {fn : Func} {rs : List ARV} (hc : mapOpt (cRV P nt) fn.results.toList = some rs) (h : resC (resA W0f T H rs) H ≠ .stuck) :
    ∃ v v', resC (resA W0f T H rs) H = .ret v H ∧ (results fn a.tmps).run P w = .ok v' w ∧ vrel B ι v v' := by
  cases hr : resA W0f T H rs with
  | none => rw [hr] at h; exact absurd rfl h
  | some vs =>
    obtain ⟨vs', h1, h2⟩ := resL_ok hb hf hw hc hr
    have hlen := lrel_length h2
    have hrun : (results fn a.tmps).run P w = .ok (if h : vs'.toArray.size = 1 then vs'.toArray[0] else .tuple vs'.toArray) w := by
      unfold results
      rw [Array.mapM_eq_mapM_toList]
      simp only [Sem.run_bind, map_eq_pure_bind]
      erw [h1]
      simp
    cases vs with
    | nil =>
      cases vs' with
      | cons _ _ => simp at hlen
      | nil => exact ⟨.tuple [], .tuple #[], rfl, by rw [hrun]; rfl, ⟨#[], rfl, rfl⟩⟩
    | cons v us =>
      cases us with
      | nil =>
        obtain ⟨v', ws, e, q, q'⟩ := lrel_cons.1 h2
        have : ws = [] := q'
        subst this
        subst e
        exact ⟨v, v', rfl, by rw [hrun]; rfl, q⟩
      | cons u us =>
        refine ⟨.tuple (v :: u :: us), .tuple vs'.toArray, rfl, ?_, ⟨_, rfl, by simpa using h2⟩⟩
        rw [hrun, dif_neg]
        simp at hlen ⊢
        omega

end Am

namespace Am
open Go

variable {P : Program} {B nt : Nat} {ι ι' : Iota} {T T' : Tmps} {a a' : Act} {W0 w w' : World} {W0f : BaseF} {H H' : AHeap} {callf : CallF}
  {ops : Array Oper} {Q : Exit → Act → World → Prop} {K : Act → World → Prop} {D D' : List ADef} {F : FnsF}

def MRel (B : Nat) (ι : Iota) : AMode → FrameMode → Prop
  | .ret, u => u = .returning
  | .pan v t, u => ∃ v', u = .panicking [{ v := v', recovered := t }] ∧ vrel B ι v v'

theorem MRel.mono (hi : ι.le ι') {m : AMode} {u : FrameMode} (h : MRel B ι m u) : MRel B ι' m u := by
  cases m with
  | ret => exact h
  | pan v t => obtain ⟨v', e, r⟩ := h; exact ⟨v', e, vrel_mono hi _ _ r⟩

theorem MRel.settle {m : AMode} {u : FrameMode} (h : MRel B ι m u) : MRel B ι (settleA m) (settle u) := by
  cases m with
  | ret => simp only [MRel] at h; subst h; rfl
  | pan v t =>
    obtain ⟨v', rfl, r⟩ := h
    cases t with
    | true => rfl
    | false => exact ⟨v', rfl, r⟩

theorem MRel.not_run {m : AMode} {u : FrameMode} (h : MRel B ι m u) : u ≠ .run := by
  cases m with
  | ret => simp only [MRel] at h; subst h; simp
  | pan v t => obtain ⟨v', rfl, r⟩ := h; simp

def FnsOK (P : Program) (F : FnsF) : Prop := ∀ f fn, F f = some fn → cFn P f = some fn ∧ ∀ g, P.funcs[f]? = some g → g.name ≠ "runtime.NumGoroutine"

structure FnIs (P : Program) (f : FuncId) (fA : AFn) (fn : Func) (c : Code) : Prop where
  func : P.funcs[f]? = some fn
  body : fn.body = some c
  name : fn.name ≠ "runtime.NumGoroutine"
  nt : fn.ntmps = fA.nt
  code : cCode P fA.nt c = fA.body
  res : mapOpt (cRV P fA.nt) fn.results.toList = some fA.res

theorem fn_is (hF : FnsOK P F) {f : FuncId} {fA : AFn} (h : F f = some fA) : ∃ fn c, FnIs P f fA fn c := by
  obtain ⟨h1, h2⟩ := hF f fA h
  unfold cFn at h1
  split at h1
  case h_2 => exact absurd h1 (by simp)
  rename_i fn hfn
  split at h1
  case h_2 => exact absurd h1 (by simp)
  rename_i c rs hb hr
  simp at h1
  subst h1
  exact ⟨fn, c, hfn, hb, h2 fn hfn, rfl, rfl, hr⟩

theorem FnIs.call {f : FuncId} {fA : AFn} {fn : Func} {c : Code} (h : FnIs P f fA fn c) (args : Array Value) (w : World) : (callFunc f args).run P w = .ok (.enter f args) w := by
  simp [callFunc, run_program, h.func, h.name, h.body]

theorem endD_inv {m m' : AMode} {r : CRes} (h : endD m r = .res m' H') : m' = settleA m ∧ ∃ e T, r = .res e T [] H' ∧ (e = .normal ∨ e = .ret) := by
  unfold endD at h
  split at h
  · rename_i T H
    simp at h
    obtain ⟨h1, h2⟩ := h
    subst h2
    exact ⟨h1.symm, .normal, T, rfl, .inl rfl⟩
  · rename_i T H
    simp at h
    obtain ⟨h1, h2⟩ := h
    subst h2
    exact ⟨h1.symm, .ret, T, rfl, .inr rfl⟩
  · exact absurd h (by simp)

/-- what a region's code came from -/
theorem seg_inv {c : Code} {l : List AInst} (h : cCode P nt c = .seg l) : ∃ id os, c = .region id os false ∧ mapOpt (cInst P nt os.toList) os.toList = some l := by
  cases c with
  | region id os d =>
    cases d with
    | false =>
      simp only [cCode, cReg] at h
      split at h
      · rename_i is his
        simp at h; subst h
        exact ⟨id, os, rfl, his⟩
      · exact absurd h (by simp)
    | true =>
      simp only [cCode, cReg] at h
      split at h
      · rename_i c' hc'
        obtain ⟨l', ds, rfl⟩ := cDrw_form hc'
        exact absurd h (by simp)
      · exact absurd h (by simp)
  | cond c x y => simp only [cCode] at h; split at h <;> exact absurd h (by simp)
  | _ => simp [cCode] at h

theorem seq_inv {c : Code} {x y : ACode} (h : cCode P nt c = .seq x y) : ∃ c1 c2, c = .seq c1 c2 ∧ cCode P nt c1 = x ∧ cCode P nt c2 = y := by
  cases c with
  | region id os d =>
    cases d with
    | false =>
      simp only [cCode, cReg] at h
      split at h <;> exact absurd h (by simp)
    | true =>
      simp only [cCode, cReg] at h
      split at h
      · rename_i c' hc'
        obtain ⟨l', ds, rfl⟩ := cDrw_form hc'
        exact absurd h (by simp)
      · exact absurd h (by simp)
  | cond c x y => simp only [cCode] at h; split at h <;> exact absurd h (by simp)
  | seq a b => simp only [cCode, ACode.seq.injEq] at h; exact ⟨a, b, rfl, h.1, h.2⟩
  | _ => simp [cCode] at h

theorem aopsD_ok {c₀ : Frame} {cs : List Frame} {QS : Exit → Act → List Frame → World → Prop} {k : Tmps → AMode → MRes} {m' : AMode} :
    ∀ (l : List Oper) (is : List AInst) (j : Nat) (T : Tmps) (m : AMode) (a : Act) (u : FrameMode), ops.toList.drop j = l → mapOpt (cInst P nt ops.toList) l = some is → FRel B ι nt T a → a.defers = [] → MRel B ι m u →
      aopsD k is T m = .res m' H' →
      (∀ T1 m1 a1 u1, FRel B ι nt T1 a1 → a1.defers = [] → MRel B ι m1 u1 → k T1 m1 = .res m' H' → QS .normal a1 ({ c₀ with mode := u1 } :: cs) w) →
      wpOpsS P ops QS (List.range' j l.length) a ({ c₀ with mode := u } :: cs) w
  | [], is, j, T, m, a, u, hk, hm, hf, hd, hmr, h, hfin => by
    have := mapOpt_nil hm; subst this
    exact hfin T m a u hf hd hmr h
  | o :: l, is, j, T, m, a, u, hk, hm, hf, hd, hmr, h, hfin => by
    obtain ⟨i, is', hi, hm', rfl⟩ := mapOpt_cons hm
    have hk' : ops.toList.drop (j + 1) = l := by
      rw [← List.drop_drop, hk]; rfl
    have ho : ops[j]? = some o := by
      have : (ops.toList.drop j)[0]? = some o := by rw [hk]; rfl
      simpa using this
    obtain ⟨op, d, g, h1, h2, h3, rfl⟩ := cInst_inv hi
    have hok := cOp_ok h1
    rw [List.length_cons, List.range'_succ]
    simp only [wpOpsS, ho]
    have hdf : ∀ v, (a.put o.dst v).defers = [] := fun v => by cases o.dst <;> exact hd
    cases g with
    | some p => simp [aopsD] at h
    | none =>
      have hwant := wanted_ok (ops := ops) (b := true) h3 hf rfl
      rw [hwant]
      simp only [if_true]
      cases hr : op.run with
      | alloc f => simp [aopsD, hr] at h
      | read f => simp [aopsD, hr] at h
      | chain f => simp [aopsD, hr] at h
      | pure f =>
        rw [hr] at hok
        simp only [aopsD, hr] at h
        cases hv : f T with
        | none => rw [hv] at h; simp at h
        | some v =>
          rw [hv] at h
          obtain ⟨v', e, r⟩ := hok B ι T a v w hf hv
          rw [e]
          exact aopsD_ok l is' (j + 1) _ m _ u hk' hm' (hf.put h2 r) (hdf v') hmr h hfin
      | recover =>
        rw [hr] at hok
        obtain ⟨at_, ty, hop, _⟩ := hok
        have e : (execOp a.eval o).run P w = .ok .recover w := by
          simp [execOp, hop, resolve, invoke, builtin]
        rw [e]
        simp only [aopsD, hr] at h
        cases m with
        | ret =>
          simp only [MRel] at hmr
          subst hmr
          exact aopsD_ok l is' (j + 1) _ .ret _ .returning hk' hm' (hf.put h2 (v := .nilIface) (v' := .nilIface) rfl) (hdf _) rfl h hfin
        | pan v t =>
          obtain ⟨v', rfl, r⟩ := hmr
          cases t with
          | true => exact aopsD_ok l is' (j + 1) _ (.pan v true) _ _ hk' hm' (hf.put h2 (v := .nilIface) (v' := .nilIface) rfl) (hdf _) ⟨v', rfl, r⟩ h hfin
          | false => exact aopsD_ok l is' (j + 1) _ (.pan v true) _ _ hk' hm' (hf.put h2 r) (hdf _) ⟨v', rfl, r⟩ h hfin

theorem callD_ok (hF : FnsOK P F) (hmo : P.follows .mixedOrders = true) (hb : BRel B W0f W0) (hcalls : CallsOK P B W0 callf) {n : Nat} {d : ADef} {d' : Deferred} {m m' : AMode} {u : FrameMode}
    (hd : DefRel B ι d d') (hm : MRel B ι m u) (hw : WRel B W0 H ι w) (h : callD F W0f callf n d m H = .res m' H') {G : FrameMode → World → Prop}
    (hG : ∀ ι' u' w', Later H ι H' ι' → WRel B W0 H' ι' w' → MRel B ι' m' u' → G u' w') :
    ∃ cap f args, d'.target = .fn (.func f) cap ∧ (invoke d'.target d'.args).run P w = .ok (.enter f args) w ∧
      CallsD P f args u w fun e u' w' => match e with | .returned _ => G (settle u') w' | .panicked _ => False | .outgrown => False := by
  obtain ⟨cap, args', rfl, hargs⟩ := hd
  unfold callD at h
  split at h
  case h_2 => exact absurd h (by simp)
  rename_i nt body hFd
  obtain ⟨fn, c, hfn⟩ := fn_is hF hFd
  cases hle : Nat.ble d.args.length nt with
  | false => rw [hle] at h; simp at h
  | true =>
    rw [hle] at h
    simp only [cond_true] at h
    have hle' : d.args.length ≤ nt := Nat.le_of_ble_eq_true hle
    have hargs' : lrel B ι d.args (args' ++ cap).toList := by simpa using hargs
    refine ⟨cap, d.fn, args' ++ cap, rfl, ?_, ?_⟩
    · simpa [invoke] using hfn.call (args' ++ cap) w
    have hfr : FRel B ι nt (frameOf d.args) { tmps := (args' ++ cap) ++ Array.replicate (fn.ntmps - (args' ++ cap).size) undef, defers := [] } := by
      rw [hfn.nt]; exact frame_ok hargs' hle'
    have hres : fn.results.toList = [] := by
      have := (mapOpt_spec hfn.res).1
      simpa using this.symm
    have hresv : ∀ (ι' : Iota) (T1 : Tmps) (a1 : Act) (w1 : World) (H1 : AHeap), FRel B ι' nt T1 a1 → WRel B W0 H1 ι' w1 → ∃ v, (results fn a1.tmps).run P w1 = .ok v w1 := fun ι' T1 a1 w1 H1 hf1 hw1 => by
      obtain ⟨v, v', _, e, _⟩ := results_ok (rs := []) hb hf1 hw1 (by rw [hres]; rfl) (by simp [resA, resC])
      exact ⟨v', e⟩
    have plain : endD m (acode W0f callf n body (frameOf d.args) [] H) = .res m' H' →
        CallsD P d.fn (args' ++ cap) u w fun e u' w' => match e with | .returned _ => G (settle u') w' | .panicked _ => False | .outgrown => False := by
      intro h
      obtain ⟨hm', e0, T0, hr, he0⟩ := endD_inv h
      have hcode := acode_ok (B := B) (nt := nt) (W0 := W0) hmo hb hcalls n c
      rw [hfn.code] at hcode
      refine (callsD_of_wp (R := fun e w' => match e with | .returned _ => G (settle u) w' | .panicked _ => False | .outgrown => False) hfn.func hfn.body
        (hcode (frameOf d.args) [] H ι _ w _ hfr rfl hw trivial (by rw [hr]; simp) ?_)).mono ?_
      · intro e T' D'' H'' hr' e' a' w' ι' hl hw' hf' hd' he
        rw [hr] at hr'
        simp only [CRes.res.injEq] at hr'
        obtain ⟨rfl, rfl, rfl, rfl⟩ := hr'
        obtain ⟨v, hv⟩ := hresv ι' _ a' w' _ hf' hw'
        have hg : G (settle u) w' := hG ι' _ w' hl hw' (by rw [hm']; exact (hm.mono hl.le).settle)
        rcases he0 with rfl | rfl
        · simp only [ExRel] at he; subst he; exact ⟨hd', v, hv, hg⟩
        · simp only [ExRel] at he; subst he; exact ⟨hd', v, hv, hg⟩
      · rintro e u' w' ⟨rfl, hR⟩
        exact hR
    split at h
    · rename_i ops rest
      cases hhr : hasRec ops with
      | false => rw [hhr] at h; exact plain h
      | true =>
        rw [hhr] at h
        simp only [cond_true] at h
        obtain ⟨c1, c2, rfl, hc1, hc2⟩ := seq_inv hfn.code
        obtain ⟨id, os, rfl, hos⟩ := seg_inv hc1
        refine callsD_of_wpS hfn.func hfn.body fun c₀ cs hu => wpS_seq (x := .region id os false) (y := c2) (wpS_region ?_)
        have hc₀ : ({ c₀ with mode := u } : Frame) = c₀ := by subst hu; rfl
        rw [← hc₀, List.range_eq_range']
        have hcode := acode_ok (B := B) (nt := nt) (W0 := W0) hmo hb hcalls n c2
        have key := aopsD_ok (P := P) (ops := os) (w := w) (c₀ := { c₀ with mode := u }) (cs := cs) (QS := Exit.thenS (c2.wpS P (bodyPostS P fn { c₀ with mode := u } cs fun e u' w' => match e with | .returned _ => G (settle u') w' | .panicked _ => False | .outgrown => False))
          (bodyPostS P fn { c₀ with mode := u } cs fun e u' w' => match e with | .returned _ => G (settle u') w' | .panicked _ => False | .outgrown => False)) os.toList ops 0 (frameOf d.args) m _ u (by simp) hos hfr rfl hm h ?_
        · simpa using key
        · intro T1 m1 a1 u1 hf1 hd1 hm1 hk
          obtain ⟨hm', e0, T0, hr, he0⟩ := endD_inv hk
          rw [← hc2] at hr
          refine wpS_of_wp (hcode T1 [] H ι a1 w _ hf1 hd1 hw trivial (by rw [hr]; simp) ?_)
          intro e T' D'' H'' hr' e' a' w' ι' hl hw' hf' hd' he
          rw [hr] at hr'
          simp only [CRes.res.injEq] at hr'
          obtain ⟨rfl, rfl, rfl, rfl⟩ := hr'
          obtain ⟨v, hv⟩ := hresv ι' _ a' w' _ hf' hw'
          have hg : G (settle u1) w' := hG ι' _ w' hl hw' (by rw [hm']; exact (hm1.mono hl.le).settle)
          rcases he0 with rfl | rfl
          · simp only [ExRel] at he; subst he; exact ⟨hd', u1, rfl, v, hv, hg⟩
          · simp only [ExRel] at he; subst he; exact ⟨hd', u1, rfl, v, hv, hg⟩
    · exact plain h

theorem leaveA_ok (hF : FnsOK P F) (hmo : P.follows .mixedOrders = true) (hb : BRel B W0f W0) (hcalls : CallsOK P B W0 callf) {n : Nat} {fn : Func} {tmps : Array Value} {R : Ending → World → Prop} {m' : AMode} :
    ∀ (D : List ADef) (m : AMode) (H : AHeap) (ι : Iota) (w : World) (u : FrameMode) (ds : List Deferred), leaveA F W0f callf n D m H = .res m' H' → DRel B ι D ds → MRel B ι m u → WRel B W0 H ι w →
      (∀ ι' u' w', Later H ι H' ι' → WRel B W0 H' ι' w' → MRel B ι' m' u' → Leaves P fn tmps R [] u' w') → Leaves P fn tmps R ds u w
  | [], m, H, ι, w, u, ds, h, hd, hm, hw, hfin => by
    simp only [DRel] at hd
    subst hd
    simp only [leaveA, MRes.res.injEq] at h
    obtain ⟨rfl, rfl⟩ := h
    exact hfin ι u w (Later.refl H ι) hw hm
  | d :: D, m, H, ι, w, u, ds, h, hd, hm, hw, hfin => by
    obtain ⟨d', ds', rfl, hdr, hds⟩ := hd
    simp only [leaveA] at h
    cases hc : callD F W0f callf n d m H with
    | stuck => rw [hc] at h; simp at h
    | res m1 H1 =>
      rw [hc] at h
      obtain ⟨cap, f, args, h1, h2, h3⟩ := callD_ok hF hmo hb hcalls hdr hm hw hc (G := fun u' w' => Leaves P fn tmps R ds' u' w') fun ι' u' w' hl hw' hm' =>
        leaveA_ok hF hmo hb hcalls D m1 H1 ι' w' u' ds' h (hds.mono hl.le) hm' hw' fun ι'' u'' w'' hl' hw'' hm'' => hfin ι'' u'' w'' (hl.trans hl') hw'' hm''
      refine ⟨hm.not_run, .func f, cap, f, args, h1, h2, h3.mono fun e u' w' he => ?_⟩
      cases e with
      | returned v => exact he
      | panicked ch => exact he.elim
      | outgrown => exact he.elim

end Am

namespace Am
open Go

variable {P : Program} {B nt : Nat} {ι ι' : Iota} {T T' : Tmps} {a a' : Act} {W0 w w' : World} {W0f : BaseF} {H H' : AHeap} {callf : CallF}
  {Q : Exit → Act → World → Prop} {D D' : List ADef} {F : FnsF}

/-- what a call's result says of a call of the model -/
def CallOK (P : Program) (B : Nat) (W0 : World) (f : FuncId) (args : List AVal) (H : AHeap) (r : CallRes) : Prop :=
  ∀ (ι : Iota) (w : World) (args' : Array Value), WRel B W0 H ι w → lrel B ι args args'.toList →
    ((callFunc f args').run P w = .ok (.enter f args') w ∧
      Calls P f args' w fun e w' => ∃ ι', Later H ι (r.heap H) ι' ∧ WRel B W0 (r.heap H) ι' w' ∧ EndRel B ι' r e) ∨
    ∃ v H' v' w' ι', r = .ret v H' ∧ (callFunc f args').run P w = .ok (.value v') w' ∧ Later H ι H' ι' ∧ WRel B W0 H' ι' w' ∧ vrel B ι' v v'

def PrimOK (P : Program) (B : Nat) (W0 : World) (prim : PrimF) : Prop :=
  ∀ f g, prim f = some g → ∀ args H, g args H ≠ .stuck → CallOK P B W0 f args H (g args H)

theorem endA_ok (hF : FnsOK P F) (hmo : P.follows .mixedOrders = true) (hb : BRel B W0f W0) (hcalls : CallsOK P B W0 callf) {n : Nat} {fn : Func} {rs : List ARV} {m : AMode} {H0 : AHeap} {ι0 : Iota} {u : FrameMode} {ds : List Deferred}
    (hres : mapOpt (cRV P nt) fn.results.toList = some rs) (hns : endA F W0f callf n rs m T D H ≠ .stuck) (hf : FRel B ι nt T a) (hd : DRel B ι D ds) (hm : MRel B ι m u) (hw : WRel B W0 H ι w) (hl : Later H0 ι0 H ι) :
    Leaves P fn a.tmps (fun e w' => ∃ ι', Later H0 ι0 ((endA F W0f callf n rs m T D H).heap H0) ι' ∧ WRel B W0 ((endA F W0f callf n rs m T D H).heap H0) ι' w' ∧ EndRel B ι' (endA F W0f callf n rs m T D H) e) ds u w := by
  cases hlv : leaveA F W0f callf n D m H with
  | stuck => exact absurd (by simp [endA, hlv]) hns
  | res m' H' =>
    refine leaveA_ok hF hmo hb hcalls D m H ι w u ds hlv hd hm hw fun ι' u' w' hl' hw' hm' => ?_
    cases m' with
    | ret =>
      simp only [MRel] at hm'
      subst hm'
      have he : endA F W0f callf n rs m T D H = resC (resA W0f T H' rs) H' := by simp [endA, hlv]
      rw [he] at hns ⊢
      obtain ⟨v, v', h1, h2, h3⟩ := results_ok hb (hf.mono hl'.le) hw' hres hns
      refine ⟨v', h2, ι', ?_⟩
      rw [h1]
      exact ⟨hl.trans hl', hw', h3⟩
    | pan v t =>
      obtain ⟨v', rfl, hv⟩ := hm'
      cases t with
      | true => exact absurd (by simp [endA, hlv]) hns
      | false =>
        have he : endA F W0f callf n rs m T D H = .pan v H' := by simp [endA, hlv]
        rw [he]
        exact ⟨ι', hl.trans hl', hw', v', rfl, hv⟩

theorem acall_ok {prim : PrimF} (hF : FnsOK P F) (hmo : P.follows .mixedOrders = true) (hb : BRel B W0f W0) (hprim : PrimOK P B W0 prim) : ∀ n, CallsOK P B W0 (acall F W0f prim n)
  | 0 => fun f args H h => absurd rfl h
  | n + 1 => fun f args H h => by
    have ih := acall_ok hF hmo hb hprim n
    show CallOK P B W0 f args H (acall F W0f prim (n + 1) f args H)
    cases hp : prim f with
    | some g =>
      have e : acall F W0f prim (n + 1) f args H = g args H := by simp [acall, hp]
      rw [e] at h ⊢
      exact hprim f g hp args H h
    | none =>
      cases hFf : F f with
      | none => exact absurd (by simp [acall, hp, hFf]) h
      | some fA =>
        cases hle : Nat.ble args.length fA.nt with
        | false => exact absurd (by simp [acall, hp, hFf, hle]) h
        | true =>
          have e : acall F W0f prim (n + 1) f args H = bodyEnd F W0f (acall F W0f prim n) n fA.res (acode W0f (acall F W0f prim n) n fA.body (frameOf args) [] H) := by simp [acall, hp, hFf, hle]
          rw [e] at h ⊢
          obtain ⟨fn, c, hfn⟩ := fn_is hF hFf
          intro ι w args' hw ha
          refine .inl ⟨hfn.call args' w, ?_⟩
          have hle' : args.length ≤ fA.nt := Nat.le_of_ble_eq_true hle
          have hcode := acode_ok (B := B) (nt := fA.nt) (W0 := W0) hmo hb ih n c
          rw [hfn.code] at hcode
          have hfr : FRel B ι fA.nt (frameOf args) { tmps := args' ++ Array.replicate (fn.ntmps - args'.size) undef, defers := [] } := by
            rw [hfn.nt]; exact frame_ok ha hle'
          refine calls_of_wp_defers hfn.func hfn.body (hcode (frameOf args) [] H ι _ w _ hfr rfl hw trivial ?_ ?_)
          · intro q; rw [q] at h; exact h rfl
          · intro e T' D' H' hr e' a' w' ι' hl hw' hf' hd' he
            rw [hr] at h ⊢
            cases e with
            | normal =>
              simp only [ExRel] at he; subst he
              exact endA_ok hF hmo hb ih hfn.res h hf' hd' (m := .ret) (u := .returning) rfl hw' hl
            | ret =>
              simp only [ExRel] at he; subst he
              exact endA_ok hF hmo hb ih hfn.res h hf' hd' (m := .ret) (u := .returning) rfl hw' hl
            | exit id => exact absurd rfl h
            | pan v =>
              obtain ⟨v', rfl, hv⟩ := he
              exact endA_ok hF hmo hb ih hfn.res h hf' hd' (m := .pan v false) ⟨v', rfl, hv⟩ hw' hl

end Am
