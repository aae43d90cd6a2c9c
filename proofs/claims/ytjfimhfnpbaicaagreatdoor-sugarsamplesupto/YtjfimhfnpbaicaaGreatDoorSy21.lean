/- Lemma: a region that draws its order comes to what the run in the order of the text comes to, under the checks; no condition. -/
import Derived.Test.YtjfimhfnpbaicaaGreatDoorSy20
namespace Go.Sy
set_option linter.unusedSimpArgs false
set_option linter.unusedVariables false

section
variable {P : Program} {T : Nat → Option TI} {m : Nat} {ops : Array Oper} {tm : Nat → AV} {s s0 : St} {tr : Nat → DSt}

structure DStat (m : Nat) (ops : Array Oper) : Prop where
  dsts : ∀ (i j : Nat) (o o' : Oper) (d : Tmp), ops[i]? = some o → ops[j]? = some o' → o.dst = some d → o'.dst = some d → i = j
  edges : ∀ (i : Nat) (o : Oper), ops[i]? = some o → ∀ e ∈ o.after.toList, Region.binds .any e = true → e.on < i
  guard : ∀ (i : Nat) (o : Oper) (j : Nat) (want : Bool), ops[i]? = some o → o.guard = some (j, want) → preB o j = true ∧ ∃ (o' : Oper) (d : Tmp), ops[j]? = some o' ∧ o'.dst = some d
  opnd : ∀ (i j : Nat) (o o' : Oper) (t : Nat), ops[i]? = some o → ops[j]? = some o' → o'.dst = some t → t ∈ slotsOf o.op.operands.toList → preB o j = true ∨ preB o' i = true ∨ i = j
  ord : ∀ (q : Nat) (x y : Nat × Oper), (effsOf (numbered 0 ops.toList))[q]? = some x → (effsOf (numbered 0 ops.toList))[q + 1]? = some y → preB2 ops y.2 x.1 = true
  fits : ∀ (i : Nat) (o : Oper), ops[i]? = some o → fitsDst m o.dst = true
theorem dstat_of (h : dstatic ops = true) (hf : statOps m ops.toList = true) : DStat m ops := by
  simp only [dstatic, Bool.and_eq_true, List.all_eq_true] at h
  obtain ⟨⟨h1, h2⟩, h3⟩ := h
  have mem : ∀ {i : Nat} {o : Oper}, ops[i]? = some o → (i, o) ∈ numbered 0 ops.toList := fun {i o} ho => numbered_mem.2 ⟨i, by simp, by simpa using ho⟩
  refine ⟨fun i j o o' d hi hj hd hd' => dstsOK_of h1 i j o o' d (by simpa using hi) (by simpa using hj) hd hd', fun i o ho e he hb => ?_, fun i o j want ho hg => ?_, fun i j o o' t hi hj hd ht => ?_, fun q x y hx hy => ordOK_of h3 q x y hx hy, fun i o ho => statOps_mem hf o (List.mem_iff_getElem?.2 ⟨i, by simpa using ho⟩)⟩
  · have := (h2 _ (mem ho)).1.1
    simp only [edgesOK, List.all_eq_true] at this
    have := this e he
    rw [hb, cond_true] at this
    exact Nat.le_of_ble_eq_true this
  · have := (h2 _ (mem ho)).1.2
    simp only [guardOK, hg, Bool.and_eq_true] at this
    refine ⟨this.1, ?_⟩
    have h4 := this.2
    cases hj : (ops[j]?).bind (·.dst) with
    | none => rw [hj] at h4; cases h4
    | some d =>
      obtain ⟨o', ho', hd'⟩ := Option.bind_eq_some_iff.1 hj
      exact ⟨o', d, ho', hd'⟩
  · have := (h2 _ (mem hi)).2 t ht
    exact opndOK_of this (j, o') (mem hj) hd

/-- the values behind all -/
noncomputable abbrev DTr.V (_ : DTr P T ops tm s s0 tr) : Nat → AV := look (tr ops.size).vals
theorem DTr.valV (h : DTr P T ops tm s s0 tr) {j : Nat} {o : Oper} {v : AV} (hv : DStep P T ops tm o (tr j) (tr (j + 1)) v) (hj : j < ops.size) : h.V j = v := h.val hv hj
theorem DTr.want (h : DTr P T ops tm s s0 tr) (hs : DStat m ops) {j : Nat} {o : Oper} (ho : ops[j]? = some o) : wantB (look (tr j).vals) o = wantB h.V o ∧ gboolB (look (tr j).vals) o = gboolB h.V o := by
  unfold wantB gboolB
  cases hg : o.guard with
  | none => exact ⟨rfl, rfl⟩
  | some q =>
    obtain ⟨g, want⟩ := q
    obtain ⟨h1, _⟩ := hs.guard j o g want ho hg
    obtain ⟨e, he, hb, rfl⟩ := preB_iff.1 h1
    have hlt := hs.edges j o ho e he hb
    have hj := (Array.getElem?_eq_some_iff.1 ho).1
    simp only
    rw [h.valOld hlt (Nat.le_of_lt hj)]
    exact ⟨rfl, rfl⟩
theorem DTr.viewEq (h : DTr P T ops tm s s0 tr) (hs : DStat m ops) {j : Nat} {o : Oper} (ho : ops[j]? = some o) : view ops o (look (tr j).vals) tm = view ops o h.V tm := by
  funext t
  unfold view
  cases (slotsOf o.op.operands.toList).any (Nat.beq t) with
  | false => rfl
  | true =>
    simp only [cond_true]
    split
    · rename_i e he
      have hm := List.mem_of_find?_eq_some he
      have hp := List.find?_some he
      simp only [Bool.and_eq_true] at hp
      have hlt := hs.edges j o ho e hm hp.1
      have hj := (Array.getElem?_eq_some_iff.1 ho).1
      exact h.valOld hlt (Nat.le_of_lt hj)
    · rfl

/-- effects, in order -/
abbrev Ef (ops : Array Oper) : List Nat := (effsOf (numbered 0 ops.toList)).map (·.1)
theorem DTr.effsAll (h : DTr P T ops tm s s0 tr) : (tr ops.size).effs.reverse = Ef ops := by
  have := (h.effs ops.toList 0 (by simp) (Nat.zero_le _)).1
  rw [this, h.z]; simp
theorem DTr.effAt (h : DTr P T ops tm s s0 tr) {j : Nat} {o : Oper} (ho : ops[j]? = some o) (he : isEff o = true) : (Ef ops)[(tr j).effs.length]? = some j := by
  have hj := (Array.getElem?_eq_some_iff.1 ho).1
  obtain ⟨o', v, ho', hv⟩ := h.at hj
  rw [ho] at ho'; cases ho'
  obtain ⟨g1, g2, g3⟩ := hv.isEff he
  have := (h.effs _ (j + 1) rfl hj).1
  rw [← h.effsAll, this, g2, List.reverse_append, List.reverse_cons, h.i j (by omega), List.append_assoc]
  rw [List.getElem?_append_right (by simp)]
  simp
theorem DTr.effPos (h : DTr P T ops tm s s0 tr) {q j : Nat} {o : Oper} (ho : ops[j]? = some o) (hq : (Ef ops)[q]? = some j) : isEff o = true ∧ q = (tr j).effs.length := by
  have hm : j ∈ Ef ops := List.mem_iff_getElem?.2 ⟨q, hq⟩
  obtain ⟨x, hx, rfl⟩ := List.mem_map.1 hm
  obtain ⟨x1, x2⟩ := x
  obtain ⟨hx1, hx2⟩ := effsOf_mem.1 hx
  obtain ⟨k, hk, hk'⟩ := numbered_mem.1 hx1
  simp only [Nat.zero_add] at hk
  subst hk
  have : x2 = o := by
    have h1 : ops[x1]? = some x2 := by simpa using hk'
    rw [ho] at h1; exact (Option.some.inj h1).symm
  subst this
  refine ⟨hx2, ?_⟩
  have hnd : (Ef ops).Nodup := (effs_sorted ops.toList 0).imp fun h => Nat.ne_of_lt h
  have h2 := h.effAt ho hx2
  have hlt := (List.getElem?_eq_some_iff.1 hq).1
  exact (List.getElem?_inj hlt hnd).1 (hq.trans h2.symm)
theorem DTr.stAt (h : DTr P T ops tm s s0 tr) {j : Nat} (hj : j ≤ ops.size) : (tr ops.size).sts.reverse[(tr j).effs.length]? = some (tr j).cur := by
  obtain ⟨X, hX⟩ := (h.effs _ j rfl hj).2
  obtain ⟨⟨Y, hY⟩, hl⟩ := h.stsOf j hj
  rw [hX, List.reverse_append, hY, List.reverse_cons, List.append_assoc]
  rw [hY] at hl
  simp only [List.length_cons] at hl
  rw [List.getElem?_append_right (by simp; omega)]
  have : (tr j).effs.length - Y.reverse.length = 0 := by simp; omega
  rw [this]; rfl

def idOf (ops : Array Oper) (tr : Nat → DSt) (i : Nat) : Option Nat := match (ops[i]?).bind allocOf with | some _ => some (tr i).next | none => none
def stOf (l : List St) (s0 : St) (q : Nat) : St := (l[q]?).getD s0

theorem DTr.dok (h : DTr P T ops tm s s0 tr) (hT : TOK P T) (hs : DStat m ops) (hpre : preAlloc T ops.toList s = some s0) (hc : ChecksP T ops tm (look (tr ops.size).vals) (tr ops.size).sts.reverse) :
    DOK P T m ops tm h.V (Ef ops) (stOf (tr ops.size).sts.reverse s0) (idOf ops tr) := by
  have hlen : (tr ops.size).sts.reverse.length = (Ef ops).length + 1 := by
    have := (h.stsOf ops.size (Nat.le_refl _)).2
    have h2 := congrArg List.length h.effsAll
    simp only [List.length_reverse] at h2 ⊢
    omega
  have hst : ∀ p, p ≤ (Ef ops).length → (tr ops.size).sts.reverse[p]? = some (stOf (tr ops.size).sts.reverse s0 p) := by
    intro p hp
    have : p < (tr ops.size).sts.reverse.length := by omega
    unfold stOf
    rw [List.getElem?_eq_getElem this]; rfl
  have hstj : ∀ j, j ≤ ops.size → stOf (tr ops.size).sts.reverse s0 (tr j).effs.length = (tr j).cur := by
    intro j hj
    unfold stOf
    rw [h.stAt hj]; rfl
  have hadm : ∀ (i : Nat) (o : Oper) (p : Nat), ops[i]? = some o → p ≤ (Ef ops).length → (∀ q j : Nat, (Ef ops)[q]? = some j → preB o j = true → q < p) →
      (∀ (q j : Nat) (o' : Oper), (Ef ops)[q]? = some j → ops[j]? = some o' → preB o' i = true → p ≤ q) → admits o i p 0 (effsOf (numbered 0 ops.toList)) = true := by
    intro i o p ho hp h1 h2
    refine admits_of _ 0 (fun q x hx hpre => ?_) (fun q x hx hpre => ?_)
    · have := h1 q x.1 (by rw [List.getElem?_map, hx]; rfl) hpre; omega
    · have hm := (effsOf_mem.1 (List.mem_iff_getElem?.2 ⟨q, hx⟩)).1
      obtain ⟨x1, x2⟩ := x
      obtain ⟨k, hk, hk'⟩ := numbered_mem.1 hm
      simp only [Nat.zero_add] at hk
      subst hk
      have := h2 q x1 x2 (by rw [List.getElem?_map, hx]; rfl) (by simpa using hk') hpre; omega
  have hmem : ∀ i o, ops[i]? = some o → (i ∈ Ef ops ↔ isEff o = true) := by
    intro i o ho
    constructor
    · intro hi
      obtain ⟨q, hq⟩ := List.mem_iff_getElem?.1 hi
      exact (h.effPos ho hq).1
    · intro he; exact List.mem_iff_getElem?.2 ⟨_, h.effAt ho he⟩
  obtain ⟨p1, p2, p3, p4, p5⟩ := preAlloc_of hT hpre
  refine ⟨hs.edges, hs.dsts, hs.fits, hs.opnd, fun i o j want ho hg => ?_, fun q i j o hi hj ho => ?_, fun q i hq => ?_, (effs_sorted ops.toList 0).imp fun h => Nat.ne_of_lt h, fun i o ho hw => ?_, fun i o ho hw hne hid p hp h1 h2 => ?_, fun i o id ho hid => ?_, fun i j id hi hj => ?_, fun q i o hq ho hw => ?_⟩
  · -- guards
    obtain ⟨h1, o', d, h2, h3⟩ := hs.guard i o j want ho hg
    have hi := (Array.getElem?_eq_some_iff.1 ho).1
    obtain ⟨o2, v, ho2, hv⟩ := h.at hi
    rw [ho] at ho2; cases ho2
    have hb := hv.gb
    rw [(h.want hs ho).2] at hb
    unfold gboolB at hb
    rw [hg] at hb
    simp only at hb
    cases hvj : h.V j with
    | bool b => exact ⟨h1, o', d, b, h2, h3, rfl⟩
    | _ => rw [hvj] at hb; cases hb
  · -- the order of effects
    rw [List.getElem?_map] at hi hj
    cases hx : (effsOf (numbered 0 ops.toList))[q]? with
    | none => rw [hx] at hi; cases hi
    | some x =>
      cases hy : (effsOf (numbered 0 ops.toList))[q + 1]? with
      | none => rw [hy] at hj; cases hj
      | some y =>
        rw [hx] at hi; rw [hy] at hj
        cases hi; cases hj
        have hm := (effsOf_mem.1 (List.mem_iff_getElem?.2 ⟨q + 1, hy⟩)).1
        obtain ⟨y1, y2⟩ := y
        obtain ⟨k, hk, hk'⟩ := numbered_mem.1 hm
        simp only [Nat.zero_add] at hk
        subst hk
        have : y2 = o := by
          have h1 : ops[y1]? = some y2 := by simpa using hk'
          rw [ho] at h1; exact (Option.some.inj h1).symm
        subst this
        exact preB2_of (hs.ord q x (y1, y2) hx hy)
  · have hm : i ∈ Ef ops := List.mem_iff_getElem?.2 ⟨q, hq⟩
    obtain ⟨x, hx, rfl⟩ := List.mem_map.1 hm
    obtain ⟨k, hk, hk'⟩ := numbered_mem.1 (effsOf_mem.1 hx).1
    have := (List.getElem?_eq_some_iff.1 hk').1
    simp at this; omega
  · -- not wanted
    have hi := (Array.getElem?_eq_some_iff.1 ho).1
    obtain ⟨o2, v, ho2, hv⟩ := h.at hi
    rw [ho] at ho2; cases ho2
    rw [← (h.want hs ho).1] at hw
    obtain ⟨g1, g2, g3, g4⟩ := hv.skip hw
    refine ⟨by rw [h.valV hv hi, g1], fun q hq => ?_⟩
    obtain ⟨he, rfl⟩ := h.effPos ho hq
    have e1 := (hv.isEff he).2.1
    have hl : (tr i).effs.length + 1 = (tr (i + 1)).effs.length := by rw [e1]; rfl
    rw [hl, hstj (i + 1) hi, hstj i (by omega), g2]
  · -- plain
    have hi := (Array.getElem?_eq_some_iff.1 ho).1
    have he : isEff o = false := by
      cases e : isEff o with
      | false => rfl
      | true => exact absurd ((hmem i o ho).2 e) hne
    have ha : allocOf o = none := by
      unfold idOf at hid
      rw [ho] at hid
      simp only [Option.bind_some] at hid
      split at hid
      · cases hid
      · assumption
    cases hpu : isPure o.op with
    | true =>
      obtain ⟨o2, v, ho2, hv⟩ := h.at hi
      rw [ho] at ho2; cases ho2
      rw [← (h.want hs ho).1] at hw
      have hstep := (hv.noal ha).2 hw
      obtain ⟨g1, g2⟩ := OpStep_same he ha hstep
      rw [h.viewEq hs ho] at g1
      rw [h.valV hv hi]
      exact aop_pure hpu g1 _
    | false =>
      have := hc i o ho he hpu hw p _ (hst p hp) (hadm i o p ho hp h1 h2)
      unfold CheckAt at this
      rw [ha] at this
      exact this
  · -- alloc
    have hi := (Array.getElem?_eq_some_iff.1 ho).1
    unfold idOf at hid
    rw [ho] at hid
    simp only [Option.bind_some] at hid
    cases ha : allocOf o with
    | none => rw [ha] at hid; cases hid
    | some e =>
      rw [ha] at hid
      simp only [Option.some.injEq] at hid
      obtain ⟨he, hop⟩ := isEff_alloc ha
      obtain ⟨o2, v, ho2, hv⟩ := h.at hi
      rw [ho] at ho2; cases ho2
      obtain ⟨ti, hti⟩ := p5 o (List.mem_iff_getElem?.2 ⟨i, by simpa using ho⟩) e ha
      obtain ⟨g1, g2⟩ := hv.al e ha
      have hval := h.val hv hi
      refine ⟨fun hm => (by have := (hmem i o ho).1 hm; rw [he] at this; cases this), e, ti, hop, hti, fun _ => by rw [← hid, ← g1]; exact hval, fun p hp h1 h2 => ?_⟩
      have hw : wantB h.V o = true := by
        cases hw : wantB h.V o with
        | true => rfl
        | false =>
          rw [← (h.want hs ho).1] at hw
          have := (hv.skip hw).2.2.1
          rw [ha] at this; cases this
      have := hc i o ho he (by rw [hop]; rfl) hw p _ (hst p hp) (hadm i o p ho hp h1 h2)
      unfold CheckAt at this
      rw [ha] at this
      obtain ⟨id', ti', k1, k2, k3⟩ := this
      rw [hti] at k2; cases k2
      have k4 : (AV.ptr id' 0) = .ptr (tr i).next 0 := by rw [← k1, ← g1]; exact hval
      cases k4
      rw [hid] at k3; exact k3
  · -- ids
    unfold idOf at hi hj
    cases hoi : ops[i]? with
    | none => rw [hoi] at hi; cases hi
    | some oi =>
      cases hoj : ops[j]? with
      | none => rw [hoj] at hj; cases hj
      | some oj =>
        rw [hoi] at hi; rw [hoj] at hj
        simp only [Option.bind_some] at hi hj
        have hlt : ∀ (a b : Nat) (oa : Oper), ops[a]? = some oa → (allocOf oa).isSome = true → a < b → b < ops.size → (tr a).next < (tr b).next := by
          intro a b oa ha hal hab hb
          obtain ⟨o2, v, ho2, hv⟩ := h.at (j := a) (by omega)
          rw [ha] at ho2; cases ho2
          obtain ⟨e, he⟩ := Option.isSome_iff_exists.1 hal
          have h1 := (hv.al e he).2
          have h2 := h.nextLe (a + 1) b hab (by omega)
          omega
        have hli := (Array.getElem?_eq_some_iff.1 hoi).1
        have hlj := (Array.getElem?_eq_some_iff.1 hoj).1
        cases hai : allocOf oi with
        | none => rw [hai] at hi; cases hi
        | some ei =>
          cases haj : allocOf oj with
          | none => rw [haj] at hj; cases hj
          | some ej =>
            rw [hai] at hi; rw [haj] at hj
            simp only [Option.some.injEq] at hi hj
            rcases Nat.lt_trichotomy i j with hij | hij | hij
            · have := hlt i j oi hoi (by rw [hai]; rfl) hij hlj; omega
            · exact hij
            · have := hlt j i oj hoj (by rw [haj]; rfl) hij hli; omega
  · -- effects
    have hi := (Array.getElem?_eq_some_iff.1 ho).1
    obtain ⟨he, rfl⟩ := h.effPos ho hq
    obtain ⟨o2, v, ho2, hv⟩ := h.at hi
    rw [ho] at ho2; cases ho2
    obtain ⟨e0, e1, e2⟩ := hv.isEff he
    have hl : (tr i).effs.length + 1 = (tr (i + 1)).effs.length := by rw [e1]; rfl
    rw [← (h.want hs ho).1] at hw
    have hstep := (hv.noal e2).2 hw
    rw [h.viewEq hs ho] at hstep
    rw [hl, hstj (i + 1) hi, hstj i (by omega), h.valV hv hi]
    exact hstep

theorem W_dtrace (hT : TOK P T) (hm : P.follows .mixedOrders = true) {id : Nat} (hs : DStat m ops) (hpre : preAlloc T ops.toList s = some s0) (h : DTr P T ops tm s s0 tr)
    (hc : ChecksP T ops tm (look (tr ops.size).vals) (tr ops.size).sts.reverse) {Q : Exit → (Nat → AV) → St → Prop} (hQ : Q .normal (finalTm ops (look (tr ops.size).vals) tm) (tr ops.size).cur) : W P m (.region id ops true) Q tm s := by
  obtain ⟨p1, p2, p3, p4, p5⟩ := preAlloc_of hT hpre
  have hz : stOf (tr ops.size).sts.reverse s0 0 = s0 := by
    have := h.stAt (Nat.zero_le ops.size)
    rw [h.z] at this
    unfold stOf
    simp only [List.length_nil] at this
    rw [this]; rfl
  refine W_draw hT hm (h.dok hT hs hpre hc) (fun c w hI => by rw [hz]; exact p4 c w hI) (fun i id' hid => ?_) ?_
  · rw [hz]
    unfold idOf at hid
    cases ho : ops[i]? with
    | none => rw [ho] at hid; cases hid
    | some o =>
      have hi := (Array.getElem?_eq_some_iff.1 ho).1
      rw [ho] at hid
      simp only [Option.bind_some] at hid
      cases ha : allocOf o with
      | none => rw [ha] at hid; cases hid
      | some e =>
        rw [ha] at hid
        simp only [Option.some.injEq] at hid
        obtain ⟨o2, v, ho2, hv⟩ := h.at hi
        rw [ho] at ho2; cases ho2
        have h1 := (hv.al e ha).2
        have h2 := h.nextLe (i + 1) ops.size hi (Nat.le_refl _)
        have h3 := h.next ops.size (Nat.le_refl _)
        have h4 := h.nextLe 0 i (Nat.zero_le _) (by omega)
        rw [h.z] at h4
        simp only [← Array.length_toList, List.take_length] at h3
        simp only at h4
        rw [Array.length_toList] at h3
        omega
  · have hl : (Ef ops).length = (tr ops.size).effs.length := by rw [← h.effsAll]; simp
    have : stOf (tr ops.size).sts.reverse s0 (Ef ops).length = (tr ops.size).cur := by
      unfold stOf
      rw [hl, h.stAt (Nat.le_refl _)]; rfl
    rw [this]
    exact hQ
end
end Go.Sy
