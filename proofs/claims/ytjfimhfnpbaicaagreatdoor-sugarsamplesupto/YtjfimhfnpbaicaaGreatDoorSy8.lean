/- Lemmas: append; stores; no condition. -/
import Derived.Test.YtjfimhfnpbaicaaGreatDoorSy7
import Derived.Lib.ConvBytes
import Derived.Laws.AppendOwn
namespace Go.Sy
set_option linter.unusedSimpArgs false
set_option linter.unusedVariables false
section
variable {P : Program} {T : Nat → Option TI} {c : Ctx} {w : World} {s : St}

/-- a token that is used up -/
theorem Inv.kill (h : Inv c w s) {t len : Nat} (ht : aget s.objs t = some (.tok len)) : Inv c w (s.put t .dead) := by
  have hni : ∀ j x, aget (aset s.objs t .dead) j = some x → (j = t ∧ x = .dead) ∨ (j ≠ t ∧ aget s.objs j = some x) := by
    intro j x hj
    by_cases e : t = j
    · subst e; rw [aget_aset_same _ s.objs _ ht] at hj; cases hj; exact .inl ⟨rfl, rfl⟩
    · rw [aget_aset_ne e] at hj; exact .inr ⟨fun e' => e e'.symm, hj⟩
  refine ⟨h.pnd, fun j x hj => ?_, h.base_le, h.old, h.os, h.out, h.fro, h.ids, fun j x b hj hv hi => ?_, h.inj, fun j x b hj hi => ?_, h.tks, fun t1 t2 b sz cap sz' cap' len len' h1 h2 hl hl' => ?_, fun t1 len1 b sz cap hl h1 => ?_⟩
  · rcases hni j x hj with ⟨rfl, rfl⟩ | ⟨_, hx⟩
    · exact ⟨(h.bel _ _ ht).1, trivial⟩
    · exact h.bel j x hx
  · rcases hni j x hj with ⟨rfl, rfl⟩ | ⟨_, hx⟩
    · cases hv
    · exact h.free j x b hx hv hi
  · rcases hni j x hj with ⟨rfl, rfl⟩ | ⟨_, hx⟩
    · exact (h.obj _ _ b ht hi).elim
    · exact h.obj j x b hx hi
  · rcases hni _ _ hl with ⟨_, e⟩ | ⟨_, hl⟩
    · cases e
    · rcases hni _ _ hl' with ⟨_, e⟩ | ⟨_, hl'⟩
      · cases e
      · exact h.two t1 t2 b sz cap sz' cap' len len' h1 h2 hl hl'
  · rcases hni _ _ hl with ⟨_, e⟩ | ⟨_, hl⟩
    · cases e
    · exact h.tok t1 len1 b sz cap hl h1

/-- a block that no object and no live token owns is written; firm cells stay -/
theorem Inv.spare (h : Inv c w s) {g : Nat} (new : Array Value) (hg : ¬ c.keep g) (hobj : ∀ i, c.ι i ≠ some g) (htok : ∀ t sz cap len, c.τ t = some (g, sz, cap) → aget s.objs t ≠ some (.tok len))
    (hcells : ∃ old el fr, w.heap[g]? = some (.cells old el fr)) (hfro : ∀ o v, c.f g o = some v → new[o]? = some v) : Inv c (w.setRow g new) s := by
  obtain ⟨old, el, fr, hc⟩ := hcells
  refine ⟨h.pnd, h.bel, by simp; exact h.base_le, fun b hb => ⟨(setRow_other w g b new (fun e => hg (e ▸ hb))).trans (h.old b hb).1, (h.old b hb).2⟩, h.os, h.out, fun b o v hv => ?_, fun i b hi => ?_, h.free, h.inj, fun i x b hx hi => ?_, fun t b sz cap ht => ?_, h.two, fun t len b sz cap hl ht => ?_⟩
  · by_cases e : b = g
    · subst e; rw [cell_setRow_same w b o old new el fr hc]; exact hfro o v hv
    · rw [cell_setRow_other w g new ⟨b, o, none⟩ e]; exact h.fro b o v hv
  · simpa using h.ids i b hi
  · exact (h.obj i x b hx hi).mono (Ctx.le.refl c) (setRow_other w g b new fun e => hobj i (e ▸ hi))
  · simpa using h.tks t b sz cap ht
  · obtain ⟨h1, h2, ⟨vs, el', h3, h4⟩, h5⟩ := h.tok t len b sz cap hl ht
    exact ⟨h1, h2, ⟨vs, el', (setRow_other w g b new fun e => htok t sz cap len (e ▸ ht) hl).trans h3, h4⟩, h5⟩

/-- a new token takes a block -/
theorem Inv.ownNew (h : Inv c w s) {t len b sz cap : Nat} (hn : c.τ t = none) (ht : aget s.objs t = some (.tok len)) (hb : ¬ c.keep b) (hb2 : b < w.heap.size) (hobj : ∀ i, c.ι i ≠ some b)
    (htok : ∀ t' sz' cap' len', c.τ t' = some (b, sz', cap') → aget s.objs t' ≠ some (.tok len')) (hlen : len ≤ cap) (hsz : 0 < sz) (hcells : ∃ (vs : Array Value) (el : TypeId), w.heap[b]? = some (.cells vs el (0, 0)) ∧ cap * sz ≤ vs.size)
    (hfro : ∀ p, len * sz ≤ p → c.f b p = none) : Inv (c.own t (b, sz, cap)) w s := by
  have hle := Ctx.le_own (q := (b, sz, cap)) hn
  refine ⟨h.pnd, h.bel, h.base_le, h.old, h.os, h.out, h.fro, h.ids, h.free, h.inj, fun i x b' hx hi => (h.obj i x b' hx hi).mono hle rfl, fun t' b' sz' cap' h' => ?_, fun t1 t2 b' sz1 cap1 sz2 cap2 len1 len2 h1 h2 hl1 hl2 => ?_, fun t' len' b' sz' cap' hl h' => ?_⟩
  · simp only [Ctx.own] at h'
    split at h'
    · cases h'; subst_vars; exact ⟨(h.bel _ _ ht).1, hb, hb2, hobj⟩
    · exact h.tks t' b' sz' cap' h'
  · simp only [Ctx.own] at h1 h2
    split at h1 <;> split at h2
    · subst_vars; rfl
    · cases h1; exact absurd hl2 (htok _ _ _ _ h2)
    · cases h2; exact absurd hl1 (htok _ _ _ _ h1)
    · exact h.two t1 t2 b' sz1 cap1 sz2 cap2 len1 len2 h1 h2 hl1 hl2
  · simp only [Ctx.own] at h'
    split at h'
    · cases h'; subst_vars
      rw [ht] at hl; cases hl
      exact ⟨hlen, hsz, hcells, hfro⟩
    · exact h.tok t' len' b' sz' cap' hl h'

theorem τ_new (h : Inv c w s) : c.τ s.n = none := by
  cases e : c.τ s.n with
  | none => rfl
  | some q => have := h.tks_lt _ _ e; omega

/-- a slice in new memory with spare room -/
theorem Inv.grown (h : Inv c w s) (vs : Array Value) (el : TypeId) {xs : List AV} {sz cap : Nat} (hne : xs ≠ []) (hsz : 0 < sz) (hx : ∀ x ∈ xs, x.cells.length = sz ∧ x.flat = true) (us : List Value) (hus : VRs c (xs.flatMap AV.cells) us) (rest : Array Value)
    (hvs : vs = us.toArray ++ rest) (hcap : xs.length ≤ cap) (hsize : cap * sz ≤ vs.size) :
    ∃ c', c.le c' ∧ Inv c' (w.alloc (.cells vs el)) (s.push (.tok xs.length)) ∧ VR c' (.sl (.tok s.n) xs) (.slice (some ⟨w.heap.size, 0, none⟩) xs.length cap) := by
  have hlen := VRs.length hus
  have hfl := flat_len xs (fun x hx' => (hx x hx').1)
  obtain ⟨k1, k2⟩ := h.allocFirm vs el (xs.length * sz)
  have k3 := k2.push (.tok xs.length) trivial
  have k4 : Inv ((c.frz w.heap.size fun o => if o < xs.length * sz then vs[o]? else none).own s.n (w.heap.size, sz, cap)) (w.alloc (.cells vs el)) (s.push (.tok xs.length)) := by
    refine k3.ownNew (t := s.n) (len := xs.length) (b := w.heap.size) (τ_new k2) (aget_cons_same _ _ _) (fun hk => Nat.lt_irrefl _ (h.base_le _ hk)) (by simp) (fun i hi => ?_) (fun t' sz' cap' len' ht' _ => ?_) hcap hsz ⟨vs, el, heap_alloc_new w _, hsize⟩ (fun p hp => ?_)
    · have := (h.ids i _ hi).2.2; omega
    · have := (h.tks t' _ sz' cap' ht').2.2.1; omega
    · simp only [Ctx.frz, if_true]; rw [if_neg (by omega)]
  have hle2 := Ctx.le_own (q := (w.heap.size, sz, cap)) (τ_new k2)
  refine ⟨_, k1.trans hle2, k4, ?_⟩
  refine .sl (.tok s.n) xs w.heap.size 0 cap sz (by simp) (els_mk hx (hus.mono (k1.trans hle2)) fun j v hj => ?_) hcap ⟨by simp, fun _ _ => hne⟩ (fun t e => ?_)
  · have hj2 := (List.getElem?_eq_some_iff.1 hj).1
    show (c.frz w.heap.size fun o => if o < xs.length * sz then vs[o]? else none).f w.heap.size (0 + j) = some v
    simp only [Ctx.frz, if_true, Nat.zero_add]
    rw [if_pos (by omega), hvs, Array.getElem?_append_left (by simpa using hj2)]
    simpa using hj
  · cases e; exact ⟨rfl, by simp [Ctx.own]⟩

theorem append_same {t ty e : TypeId} (hT : TOK P T) {ti te : TI} (ht : T t = some ti) (hk : ti.k = .slice e) (hte : T e = some te) {x : AV} {k : SK} {v u : Value} (hx : (∃ k xs, x = .sl k xs) ∨ ∃ t sz, x = .rsv t sz) (hv : VR c x v) (hu : VR c (.sl k []) u) (w : World) :
    (Builtin.append_ #[t, t] ty #[v, u]).run P w = .ok v w := by
  obtain ⟨i, d, z, hf⟩ := tfacts hT ht
  obtain ⟨i', d', z', hf'⟩ := tfacts hT hte
  obtain rfl := tk_slice (hf.k.symm.trans hk)
  have hlc : ∀ (a : Addr) (w : World), (loadCells a 0).run P w = .ok #[] w := fun a w => rfl
  have hb : ∃ base n, u = .slice base 0 n := by
    cases hu with
    | slnil => exact ⟨none, 0, rfl⟩
    | sle _ a cap _ => exact ⟨some a, cap, rfl⟩
    | sl _ _ b o cap sz _ _ _ _ _ => exact ⟨_, cap, rfl⟩
  obtain ⟨base, n, rfl⟩ := hb
  have hfc : (Builtin.firstCells te.size 0 (.slice base 0 n)).run P w = .ok #[] w := by
    cases base with
    | none => simp [Builtin.firstCells]
    | some a => simp [Builtin.firstCells, hlc]
  rcases hx with ⟨k', xs, rfl⟩ | ⟨t', sz', rfl⟩
  · cases hv with
    | slnil => simp [Builtin.append_, run_underlying hf.und, run_sizeOf' hf', Builtin.lenOf, hfc]
    | sle _ a cap _ => simp [Builtin.append_, run_underlying hf.und, run_sizeOf' hf', Builtin.lenOf, hfc, storeCells]
    | sl _ _ b o cap sz h1 h2 h3 h4 h5 =>
      simp [Builtin.append_, run_underlying hf.und, run_sizeOf' hf', Builtin.lenOf, hfc, h3, storeCells]
  · cases hv with
    | rsv _ _ b cap hb => simp [Builtin.append_, run_underlying hf.und, run_sizeOf' hf', Builtin.lenOf, hfc, storeCells]

theorem append_room (w : World) {t ty e : TypeId} {i : TypeInfo} (ht : P.underlying t = some (.slice e)) (hi : P.info? e = some i)
    (g sLen sCap : Nat) (cur : Array Value) (el : TypeId) (hg : w.heap[g]? = some (.cells cur el (0, 0)))
    (a : Addr) (m n : Nat) (news : List Value) (hl : news.length = m * i.size) (hnews : ∀ j u, news[j]? = some u → w.cell? (a.add j) = some u) (h1 : ∀ u ∈ news, u.oneCell' = true)
    (hroom : sLen + m ≤ sCap) (hfit : sLen * i.size + news.length ≤ cur.size) :
    (Builtin.append_ #[t, t] ty #[.slice (some ⟨g, 0, none⟩) sLen sCap, .slice (some a) m n]).run P w =
      .ok (.slice (some ⟨g, 0, none⟩) (sLen + m) sCap) (w.setRow g (cur.toList.take (sLen * i.size) ++ news ++ cur.toList.drop (sLen * i.size + news.length)).toArray) := by
  have hf := run_firstCells_some (P := P) w i.size m a m n news hl hnews
  have hst := run_storeCells_at P g (sLen * i.size) el news 0 cur w hg (by simpa using hfit) h1
  simp only [Nat.add_zero] at hst
  simp [Builtin.append_, run_underlying ht, sizeOf, typeInfo, hi, Builtin.lenOf, hroom, hf, addr_add, hst]

theorem ones_rep : ∀ {l : List AV} {vs : List Value}, VRs c l vs → (∀ x ∈ l, x.one = true) → ∀ v ∈ vs, v.oneCell' = true
  | [], _, h, _ => by cases h; simp
  | x :: l, _, h, g => by
    cases h with
    | vcons _ _ v vs h1 h2 =>
      intro u hu
      rcases List.mem_cons.1 hu with rfl | hu
      · exact one_rep h1 (g x (by simp))
      · exact ones_rep h2 (fun y hy => g y (by simp [hy])) u hu

/-- what stands in a slice that is not empty -/
theorem sl_cells (hI : Inv c w s) {k : SK} {y : AV} {ys : List AV} {n : Nat} {v : Value} (hv : VR c (.sl k (y :: ys)) v) (he : elSize n (y :: ys) = true) :
    ∃ b o cap, v = .slice (some ⟨b, o, none⟩) (y :: ys).length cap ∧ (y :: ys).length ≤ cap ∧ (k = .full → cap = (y :: ys).length) ∧ (∀ t, k = .tok t → o = 0 ∧ c.τ t = some (b, n, cap)) ∧
      (∀ x ∈ (y :: ys), x.cells.length = n ∧ x.flat = true) ∧ ∃ us : List Value, VRs c ((y :: ys).flatMap AV.cells) us ∧ us.length = (y :: ys).length * n ∧ ∀ j u, us[j]? = some u → c.f b (o + j) = some u := by
  cases hv with
  | sl _ _ b o cap sz h1 h2 h3 h4 h5 =>
    obtain rfl := els_size h2 he (by simp)
    obtain ⟨g1, g2⟩ := els_cells h2
    obtain ⟨us, k1, k2⟩ := cellsR g1
    refine ⟨b, o, cap, rfl, h3, h4.1, h5, fun x hx => ?_, us, k1, by rw [← VRs.length k1, g2], k2⟩
    obtain ⟨i, hi⟩ := List.mem_iff_getElem?.1 hx
    exact ⟨(els_get h2 i x hi).1, (els_get h2 i x hi).2.1⟩

/-- append to a slice in memory of its own -/
theorem append_owned {t ty e : TypeId} {te : TI} {i' : TypeInfo} {d' : TypeDesc} {z' : Value} (hI : Inv c w s) (hu : P.underlying t = some (.slice e)) (hf' : TFacts P e te i' d' z') {xs : List AV} {y : AV} {ys : List AV} {tk len xb xcap yb yo ycap : Nat} {xus yus : List Value}
    (hlen : aget s.objs tk = some (.tok len)) (hle : len = xs.length) (htau : c.τ tk = some (xb, te.size, xcap)) (xc1 : xs.length ≤ xcap)
    (xflat : ∀ x ∈ xs, x.cells.length = te.size ∧ x.flat = true) (xrep : VRs c (xs.flatMap AV.cells) xus) (xlen : xus.length = xs.length * te.size) (xf : ∀ j u, xus[j]? = some u → c.f xb (0 + j) = some u)
    (yflat : ∀ x ∈ (y :: ys), x.cells.length = te.size ∧ x.flat = true) (yrep : VRs c ((y :: ys).flatMap AV.cells) yus) (ylen : yus.length = (y :: ys).length * te.size) (hnews : ∀ (u : World), u.heap = w.heap → ∀ j v, yus[j]? = some v → u.cell? ((⟨yb, yo, none⟩ : Addr).add j) = some v)
    (hone : ∀ u ∈ yus, u.oneCell' = true) (b1 : (xs.length + (y :: ys).length) * te.bytes ≤ 140737488355328) (b2 : 0 < te.size) (b4 : xs.length + (y :: ys).length ≤ 9223372036854775807) :
    ∃ v w' c', (Builtin.append_ #[t, t] ty #[.slice (some ⟨xb, 0, none⟩) xs.length xcap, .slice (some ⟨yb, yo, none⟩) (y :: ys).length ycap]).run P w = .ok v w' ∧ c.le c' ∧ Inv c' w' (St.push (s.put tk .dead) (.tok (xs.length + (y :: ys).length))) ∧ VR c' (.sl (.tok s.n) (xs ++ y :: ys)) v := by
  have hy' := hf'.size
  have hby := hf'.bytes
  have hI1 := hI.kill hlen
  obtain ⟨t1, t2, ⟨cur, el, t3, t4⟩, t5⟩ := hI.tok tk len xb te.size xcap hlen htau
  obtain ⟨u1, u2, u3, u4⟩ := hI.tks tk xb te.size xcap htau
  have holds : ∀ j v, xus[j]? = some v → w.cell? ((⟨xb, 0, none⟩ : Addr).add j) = some v := fun j v hj => by rw [addr_add]; exact hI.fro _ _ _ (xf j v hj)
  by_cases hroom : xs.length + (y :: ys).length ≤ xcap
  · -- in place
    have hfit : xs.length * te.size + yus.length ≤ cur.size := by
      rw [ylen, ← Nat.add_mul]
      exact Nat.le_trans (Nat.mul_le_mul_right _ hroom) t4
    have hrun := append_room (P := P) w (ty := ty) hu hf'.info xb xs.length xcap cur el t3 ⟨yb, yo, none⟩ (y :: ys).length ycap yus (by rw [hy']; exact ylen) (hnews w rfl) hone hroom (by rw [hy']; exact hfit)
    rw [hy'] at hrun
    have hdead : ∀ t' sz' cap' len', c.τ t' = some (xb, sz', cap') → aget (aset s.objs tk .dead) t' ≠ some (.tok len') := by
      intro t' sz' cap' len' h' hl'
      by_cases e : tk = t'
      · subst e; rw [aget_aset_same _ s.objs _ hlen] at hl'; cases hl'
      · rw [aget_aset_ne e] at hl'
        exact e (hI.two tk t' xb te.size xcap sz' cap' len len' htau h' hlen hl')
    have hxcur : ∀ (j : Nat) (v : Value), xus[j]? = some v → cur[j]? = some v := fun j v hj => by
      have := hI.fro _ _ _ (xf j v hj)
      simpa [World.cell?, t3] using this
    -- the row as it is then
    have hnew1 : ∀ (j : Nat) (v : Value), (xus ++ yus)[j]? = some v → ((cur.toList.take (xs.length * te.size) ++ yus ++ cur.toList.drop (xs.length * te.size + yus.length)).toArray)[j]? = some v := by
      intro j v hj
      have htk : (cur.toList.take (xs.length * te.size)).length = xs.length * te.size := by
        simp only [List.length_take, Array.length_toList]; omega
      rw [List.getElem?_toArray]
      by_cases hlt : j < xus.length
      · rw [List.getElem?_append_left hlt] at hj
        rw [List.getElem?_append_left (by simp only [List.length_append, htk]; omega), List.getElem?_append_left (by omega), List.getElem?_take, if_pos (by omega)]
        simpa using hxcur j v hj
      · have hj2 := (List.getElem?_eq_some_iff.1 hj).1
        rw [List.length_append] at hj2
        rw [List.getElem?_append_right (by omega)] at hj
        rw [List.getElem?_append_left (by simp only [List.length_append, htk]; omega), List.getElem?_append_right (by omega), htk, ← xlen]
        exact hj
    have hsp := hI1.spare (cur.toList.take (xs.length * te.size) ++ yus ++ cur.toList.drop (xs.length * te.size + yus.length)).toArray u2 u4 hdead ⟨cur, el, _, t3⟩ (fun o v hv => by
      have ho : o < len * te.size := by
        rcases Nat.lt_or_ge o (len * te.size) with h | h
        · exact h
        · rw [t5 o h] at hv; cases hv
      have hcv := hI.fro _ _ _ hv
      have hcv' : cur[o]? = some v := by simpa [World.cell?, t3] using hcv
      rw [hle] at ho
      rw [List.getElem?_toArray, List.append_assoc, List.getElem?_append_left (by simp only [List.length_take, Array.length_toList]; omega), List.getElem?_take, if_pos ho]
      simpa using hcv')
    generalize hnw : (cur.toList.take (xs.length * te.size) ++ yus ++ cur.toList.drop (xs.length * te.size + yus.length)).toArray = new at hrun hnew1 hsp
    have hnsz : xcap * te.size ≤ new.size := by
      rw [← hnw]
      simp only [List.size_toArray, List.length_append, List.length_take, List.length_drop, Array.length_toList]
      omega
    have hrow : (w.setRow xb new).heap[xb]? = some (.cells new el (0, 0)) := setRow_heap w xb cur new el _ t3
    -- the new elements become firm
    have hfz : c.le (c.frz xb fun o => if o < (xs.length + (y :: ys).length) * te.size then new[o]? else none) := Ctx.le_frz fun o v hv => by
      have ho : o < len * te.size := by
        rcases Nat.lt_or_ge o (len * te.size) with h | h
        · exact h
        · rw [t5 o h] at hv; cases hv
      have hc := hsp.fro _ _ _ hv
      rw [cell_setRow_same w xb o cur new el _ t3] at hc
      rw [if_pos (by rw [Nat.add_mul, ← hle]; omega)]; exact hc
    have k2 := hsp.frz xb (fun o => if o < (xs.length + (y :: ys).length) * te.size then new[o]? else none) (fun o v hv => by
      split at hv
      · rw [cell_setRow_same w xb o cur new el _ t3]; exact hv
      · cases hv) u2 (fun i _ _ _ => u4 i) (fun t' sz' cap' len' h' hl' _ _ => absurd hl' (hdead t' sz' cap' len' h')) hfz
    have k3 := k2.push (.tok (xs.length + (y :: ys).length)) trivial
    have hn := τ_new k2
    have hdead' : ∀ t' sz' cap' len', c.τ t' = some (xb, sz', cap') → aget ((s.n, AObj.tok (xs.length + (y :: ys).length)) :: aset s.objs tk .dead) t' ≠ some (.tok len') := by
      intro t' sz' cap' len' h' hl'
      have hlt := (hI.tks t' xb sz' cap' h').1
      rw [aget_cons_ne (by omega)] at hl'
      exact hdead t' sz' cap' len' h' hl'
    have k4 : Inv ((c.frz xb fun o => if o < (xs.length + (y :: ys).length) * te.size then new[o]? else none).own s.n (xb, te.size, xcap)) (w.setRow xb new) (St.push (s.put tk .dead) (.tok (xs.length + (y :: ys).length))) := by
      refine k3.ownNew (t := s.n) (len := (xs.length + (y :: ys).length)) hn (aget_cons_same _ _ _) u2 (by simp; exact u3) u4 hdead' hroom b2 ⟨new, el, hrow, hnsz⟩ (fun p hp => ?_)
      simp only [Ctx.frz, if_true]; rw [if_neg (by omega)]
    have hle2 := Ctx.le_own (q := (xb, te.size, xcap)) hn
    refine ⟨_, _, _, hrun, hfz.trans hle2, k4, ?_⟩
    have := Rep.sl (c := (c.frz xb fun o => if o < (xs.length + (y :: ys).length) * te.size then new[o]? else none).own s.n (xb, te.size, xcap)) (.tok s.n) (xs ++ (y :: ys)) xb 0 xcap te.size (by simp)
      (els_mk (fun q hq => (List.mem_append.1 hq).elim (xflat q) (yflat q)) (by rw [List.flatMap_append]; exact (VRs.append xrep yrep).mono (hfz.trans hle2)) fun j v hj => by
        have hj2 := (List.getElem?_eq_some_iff.1 hj).1
        show (c.frz xb fun o => if o < (xs.length + (y :: ys).length) * te.size then new[o]? else none).f xb (0 + j) = some v
        simp only [Ctx.frz, if_true, Nat.zero_add]
        rw [if_pos (by rw [Nat.add_mul]; rw [List.length_append] at hj2; omega)]
        exact hnew1 j v hj) (by rw [List.length_append]; exact hroom) ⟨by simp, by simp⟩ (fun t' e => by cases e; exact ⟨rfl, by simp [Ctx.own]⟩)
    rw [List.length_append] at this
    exact this
  · -- moved
    have hrun := run_append_grow (P := P) w t ty e i' z' hu hf'.info hf'.zero ⟨xb, 0, none⟩ xs.length xcap xus (by rw [hy']; exact xlen) holds ⟨yb, yo, none⟩ (y :: ys).length ycap yus (by rw [hy']; exact ylen) (hnews w rfl) (by omega) (by omega)
      (growslice_fits (by omega) (by rw [hby]; exact b1))
    obtain ⟨c', g1, g2, g3⟩ := hI1.drew.grown (hne := by simp) (xus.toArray ++ yus.toArray ++ Builtin.zeroCells z'.cells (grownCap w (xs.length + (y :: ys).length) xcap e - (xs.length + (y :: ys).length))) e (xs := xs ++ (y :: ys)) (cap := grownCap w (xs.length + (y :: ys).length) xcap e) b2
      (fun q hq => (List.mem_append.1 hq).elim (xflat q) (yflat q)) (xus ++ yus) (by rw [List.flatMap_append]; exact VRs.append xrep yrep) (Builtin.zeroCells z'.cells (grownCap w (xs.length + (y :: ys).length) xcap e - (xs.length + (y :: ys).length))) (by simp)
      (by rw [List.length_append]; exact grownCap_ge w _ _ e) (by
        have hge := grownCap_ge w (xs.length + (y :: ys).length) xcap e
        simp only [Array.size_append, List.size_toArray, size_zeroCells, hf'.zsize, ylen, xlen, ← Nat.add_mul]
        rw [show xs.length + (y :: ys).length + (grownCap w (xs.length + (y :: ys).length) xcap e - (xs.length + (y :: ys).length)) = grownCap w (xs.length + (y :: ys).length) xcap e by omega]
        exact Nat.le_refl _)
    refine ⟨_, _, c', hrun, g1, ?_, ?_⟩
    · rw [List.length_append] at g2; exact g2
    · rw [List.length_append] at g3; exact g3

theorem aappend_sound (hT : TOK P T) (hI : Inv c w s) {t ty e : TypeId} {ti te : TI} (ht : T t = some ti) (hk : ti.k = .slice e) (hte : T e = some te) {x y r : AV} {s' : St} (h : aappend te s x y = some (r, s'))
    {vx vy : Value} (hx : VR c x vx) (hy : VR c y vy) :
    ∃ v w' c', (Builtin.append_ #[t, t] ty #[vx, vy]).run P w = .ok v w' ∧ c.le c' ∧ Inv c' w' s' ∧ VR c' r v := by
  obtain ⟨i, d, z, hf⟩ := tfacts hT ht
  obtain ⟨i', d', z', hf'⟩ := tfacts hT hte
  have hd := tk_slice (hf.k.symm.trans hk)
  have hu := hf.und
  rw [hd] at hu
  unfold aappend at h
  split at h
  · rename_i tk sz k2 y ys
    cases hb : (Nat.ble ((y :: ys).length * te.bytes) 140737488355328 && Nat.blt 0 te.size && (y :: ys).all (fun y => y.cells.all AV.one) && Nat.ble (y :: ys).length 9223372036854775807 && elSize te.size (y :: ys) && Nat.beq sz te.size) with
    | false => rw [hb] at h; cases h
    | true =>
    rw [hb] at h
    simp only [cond_true] at h
    simp only [Bool.and_eq_true] at hb
    obtain ⟨⟨⟨⟨⟨b1, b2⟩, b3⟩, b4⟩, b6⟩, b7⟩ := hb
    have b1 := Nat.le_of_ble_eq_true b1
    have b4 := Nat.le_of_ble_eq_true b4
    have b7 := Nat.eq_of_beq_eq_true b7
    have b2 : 0 < te.size := by have := b2; simp [Nat.blt] at this; omega
    subst b7
    obtain ⟨yb, yo, ycap, rfl, yc1, _, _, yflat, yus, yrep, ylen, yf⟩ := sl_cells hI hy b6
    have hnews : ∀ (u : World), u.heap = w.heap → ∀ j v, yus[j]? = some v → u.cell? ((⟨yb, yo, none⟩ : Addr).add j) = some v := fun u hu' j v hj => by
      rw [addr_add]
      have := hI.fro _ _ _ (yf j v hj)
      simpa [World.cell?, hu'] using this
    have hone : ∀ u ∈ yus, u.oneCell' = true := ones_rep yrep fun x hx' => by
      obtain ⟨q, hq1, hq2⟩ := List.mem_flatMap.1 hx'
      exact List.all_eq_true.1 (List.all_eq_true.1 b3 q hq1) x hq2
    split at h
    · rename_i len hlen
      cases hb : Nat.beq len 0 with
      | false => rw [hb] at h; cases h
      | true =>
        rw [hb] at h; cases h
        have hle := Nat.eq_of_beq_eq_true hb
        cases hx with
        | rsv _ _ xb xcap htau =>
          have := append_owned (ty := ty) (ycap := ycap) hI hu hf' (xs := []) (xus := []) hlen hle htau (Nat.zero_le _) (by simp) .vnil (by simp) (by simp) yflat yrep ylen hnews hone (by simpa using b1) b2 (by simpa using b4)
          simpa using this
    · cases h
  · cases h
    exact ⟨vx, w, c, append_same hT ht hk hte (.inr ⟨_, _, rfl⟩) hx hy w, Ctx.le.refl c, hI, hx⟩
  · rename_i k
    split at h
    · cases h
      exact ⟨vx, w, c, append_same hT ht hk hte (.inl ⟨_, _, rfl⟩) hx hy w, Ctx.le.refl c, hI, hx⟩
    · cases h
  · rename_i k xs k2 ys hne
    cases ys with
    | nil => exact absurd rfl hne
    | cons y ys =>
    cases hb : (Nat.ble ((xs.length + (y :: ys).length) * te.bytes) 140737488355328 && Nat.blt 0 te.size && (y :: ys).all (fun y => y.cells.all AV.one) && Nat.ble (xs.length + (y :: ys).length) 9223372036854775807 && elSize te.size xs && elSize te.size (y :: ys)) with
    | false => rw [hb] at h; cases h
    | true =>
    rw [hb] at h
    simp only [cond_true] at h
    simp only [Bool.and_eq_true] at hb
    obtain ⟨⟨⟨⟨⟨b1, b2⟩, b3⟩, b4⟩, b5⟩, b6⟩ := hb
    have b1 := Nat.le_of_ble_eq_true b1
    have b4 := Nat.le_of_ble_eq_true b4
    have b2 : 0 < te.size := by have := b2; simp [Nat.blt] at this; omega
    obtain ⟨yb, yo, ycap, rfl, yc1, _, _, yflat, yus, yrep, ylen, yf⟩ := sl_cells hI hy b6
    have hnews : ∀ (u : World), u.heap = w.heap → ∀ j v, yus[j]? = some v → u.cell? ((⟨yb, yo, none⟩ : Addr).add j) = some v := fun u hu' j v hj => by
      rw [addr_add]
      have := hI.fro _ _ _ (yf j v hj)
      simpa [World.cell?, hu'] using this
    have hone : ∀ u ∈ yus, u.oneCell' = true := ones_rep yrep fun x hx' => by
      obtain ⟨q, hq1, hq2⟩ := List.mem_flatMap.1 hx'
      exact List.all_eq_true.1 (List.all_eq_true.1 b3 q hq1) x hq2
    have hy' := hf'.size
    have hby := hf'.bytes
    split at h
    · -- nil
      cases h
      cases hx with
      | sl _ _ b o cap sz h1 h2 h3 h4 h5 => exact absurd rfl h1
      | sle _ _ _ hkk => rcases hkk with e | e | ⟨e, _⟩ <;> cases e
      | slnil _ hkk =>
      have hrun := run_append_nil (P := P) w t ty e i' z' hu hf'.info hf'.zero ⟨yb, yo, none⟩ (y :: ys).length ycap yus (by rw [hy']; exact ylen) (hnews w rfl) (by simp) (by simp at b4 ⊢; omega) (by rw [hby]; simp at b1 ⊢; omega)
      obtain ⟨c', g1, g2, g3⟩ := hI.drew.grown (hne := by simp) (yus.toArray ++ Builtin.zeroCells z'.cells (grownCap w (y :: ys).length 0 e - (y :: ys).length)) e (xs := [] ++ (y :: ys)) (cap := grownCap w (y :: ys).length 0 e) b2 (by simpa using yflat) yus (by simpa using yrep) _ rfl
        (by simpa using grownCap_ge w (y :: ys).length 0 e) (by
          have hge := grownCap_ge w (y :: ys).length 0 e
          simp only [Array.size_append, List.size_toArray, size_zeroCells, hf'.zsize, ylen, ← Nat.add_mul]
          rw [show (y :: ys).length + (grownCap w (y :: ys).length 0 e - (y :: ys).length) = grownCap w (y :: ys).length 0 e by omega]
          exact Nat.le_refl _)
      refine ⟨_, _, c', hrun, g1, ?_, ?_⟩
      · simpa using g2
      · simpa using g3
    · -- full
      cases h
      cases xs with
      | nil =>
        cases hx with
        | slnil _ hkk => rcases hkk with e | e | ⟨_, e⟩ <;> cases e
        | sle _ ad cap hkk =>
          have hc0 : cap = 0 := by rcases hkk with e | e | ⟨_, e⟩ <;> first | exact e | cases e
          subst hc0
          have hrun := run_append_grow (P := P) w t ty e i' z' hu hf'.info hf'.zero ad 0 0 [] (by simp) (by simp) ⟨yb, yo, none⟩ (y :: ys).length ycap yus (by rw [hy']; exact ylen) (hnews w rfl) (by simp) (by simp at b4 ⊢; omega)
            (growslice_fits (by simp) (by rw [hby]; simp at b1 ⊢; omega))
          obtain ⟨c', g1, g2, g3⟩ := hI.drew.grown (hne := by simp) (yus.toArray ++ Builtin.zeroCells z'.cells (grownCap w (0 + (y :: ys).length) 0 e - (0 + (y :: ys).length))) e (xs := [] ++ (y :: ys)) (cap := grownCap w (0 + (y :: ys).length) 0 e) b2 (by simpa using yflat) yus (by simpa using yrep) _ rfl
            (by simpa using grownCap_ge w (y :: ys).length 0 e) (by
              have hge := grownCap_ge w (0 + (y :: ys).length) 0 e
              simp only [Array.size_append, List.size_toArray, size_zeroCells, hf'.zsize, ylen, ← Nat.add_mul]
              rw [show (y :: ys).length + (grownCap w (0 + (y :: ys).length) 0 e - (0 + (y :: ys).length)) = grownCap w (0 + (y :: ys).length) 0 e by omega]
              exact Nat.le_refl _)
          refine ⟨_, _, c', hrun, g1, ?_, ?_⟩
          · simpa using g2
          · simpa using g3
        | sl _ _ b o cap sz h1 h2 h3 h4 h5 =>
          have hc0 : cap = 0 := by simpa using h4.1 rfl
          subst hc0
          have hrun := run_append_grow (P := P) w t ty e i' z' hu hf'.info hf'.zero ⟨b, o, none⟩ 0 0 [] (by simp) (by simp) ⟨yb, yo, none⟩ (y :: ys).length ycap yus (by rw [hy']; exact ylen) (hnews w rfl) (by simp) (by simp at b4 ⊢; omega)
            (growslice_fits (by simp) (by rw [hby]; simp at b1 ⊢; omega))
          obtain ⟨c', g1, g2, g3⟩ := hI.drew.grown (hne := by simp) (yus.toArray ++ Builtin.zeroCells z'.cells (grownCap w (0 + (y :: ys).length) 0 e - (0 + (y :: ys).length))) e (xs := [] ++ (y :: ys)) (cap := grownCap w (0 + (y :: ys).length) 0 e) b2 (by simpa using yflat) yus (by simpa using yrep) _ rfl
            (by simpa using grownCap_ge w (y :: ys).length 0 e) (by
              have hge := grownCap_ge w (0 + (y :: ys).length) 0 e
              simp only [Array.size_append, List.size_toArray, size_zeroCells, hf'.zsize, ylen, ← Nat.add_mul]
              rw [show (y :: ys).length + (grownCap w (0 + (y :: ys).length) 0 e - (0 + (y :: ys).length)) = grownCap w (0 + (y :: ys).length) 0 e by omega]
              exact Nat.le_refl _)
          refine ⟨_, _, c', hrun, g1, ?_, ?_⟩
          · simpa using g2
          · simpa using g3
      | cons x xs =>
        obtain ⟨xb, xo, xcap, rfl, xc1, xfull, _, xflat, xus, xrep, xlen, xf⟩ := sl_cells hI hx b5
        have hcap := xfull rfl
        subst hcap
        have holds : ∀ j v, xus[j]? = some v → w.cell? ((⟨xb, xo, none⟩ : Addr).add j) = some v := fun j v hj => by rw [addr_add]; exact hI.fro _ _ _ (xf j v hj)
        have hrun := run_append_grow (P := P) w t ty e i' z' hu hf'.info hf'.zero ⟨xb, xo, none⟩ (x :: xs).length (x :: xs).length xus (by rw [hy']; exact xlen) holds ⟨yb, yo, none⟩ (y :: ys).length ycap yus (by rw [hy']; exact ylen) (hnews w rfl) (by simp) (by omega)
          (growslice_fits (by simp) (by rw [hby]; exact b1))
        obtain ⟨c', g1, g2, g3⟩ := hI.drew.grown (hne := by simp) (xus.toArray ++ yus.toArray ++ Builtin.zeroCells z'.cells (grownCap w ((x :: xs).length + (y :: ys).length) (x :: xs).length e - ((x :: xs).length + (y :: ys).length))) e (xs := (x :: xs) ++ (y :: ys)) (cap := grownCap w ((x :: xs).length + (y :: ys).length) (x :: xs).length e) b2
          (fun q hq => (List.mem_append.1 hq).elim (xflat q) (yflat q)) (xus ++ yus) (by rw [List.flatMap_append]; exact VRs.append xrep yrep) (Builtin.zeroCells z'.cells (grownCap w ((x :: xs).length + (y :: ys).length) (x :: xs).length e - ((x :: xs).length + (y :: ys).length))) (by simp)
          (by rw [List.length_append]; exact grownCap_ge w _ _ e) (by
            have hge := grownCap_ge w ((x :: xs).length + (y :: ys).length) (x :: xs).length e
            simp only [Array.size_append, List.size_toArray, size_zeroCells, hf'.zsize, ylen, xlen, ← Nat.add_mul]
            rw [show (x :: xs).length + (y :: ys).length + (grownCap w ((x :: xs).length + (y :: ys).length) (x :: xs).length e - ((x :: xs).length + (y :: ys).length)) = grownCap w ((x :: xs).length + (y :: ys).length) (x :: xs).length e by omega]
            exact Nat.le_refl _)
        refine ⟨_, _, c', hrun, g1, ?_, ?_⟩
        · rw [List.length_append] at g2; exact g2
        · rw [List.length_append] at g3; exact g3
    · -- tok
      rename_i tk
      split at h
      · rename_i len hlen
        cases hb : Nat.beq len xs.length with
        | false => rw [hb] at h; cases h
        | true =>
        rw [hb] at h; cases h
        have hle := Nat.eq_of_beq_eq_true hb
        cases xs with
        | nil =>
          cases hx with
          | sl _ _ b o cap sz h1 h2 h3 h4 h5 => exact absurd rfl (h4.2 tk rfl)
          | sle _ _ _ hkk => rcases hkk with e | e | ⟨e, _⟩ <;> cases e
          | slnil _ hkk =>
          have hI1 := hI.kill hlen
          have hrun := run_append_nil (P := P) w t ty e i' z' hu hf'.info hf'.zero ⟨yb, yo, none⟩ (y :: ys).length ycap yus (by rw [hy']; exact ylen) (hnews w rfl) (by simp) (by simp at b4 ⊢; omega) (by rw [hby]; simp at b1 ⊢; omega)
          obtain ⟨c', g1, g2, g3⟩ := hI1.drew.grown (hne := by simp) (yus.toArray ++ Builtin.zeroCells z'.cells (grownCap w (y :: ys).length 0 e - (y :: ys).length)) e (xs := [] ++ (y :: ys)) (cap := grownCap w (y :: ys).length 0 e) b2 (by simpa using yflat) yus (by simpa using yrep) (Builtin.zeroCells z'.cells (grownCap w (y :: ys).length 0 e - (y :: ys).length)) (by simp)
            (by simpa using grownCap_ge w (y :: ys).length 0 e) (by
              have hge := grownCap_ge w (y :: ys).length 0 e
              simp only [Array.size_append, List.size_toArray, size_zeroCells, hf'.zsize, ylen, ← Nat.add_mul]
              rw [show (y :: ys).length + (grownCap w (y :: ys).length 0 e - (y :: ys).length) = grownCap w (y :: ys).length 0 e by omega]
              exact Nat.le_refl _)
          refine ⟨_, _, c', hrun, g1, ?_, ?_⟩
          · simpa using g2
          · simpa [St.put] using g3
        | cons x xs =>
        obtain ⟨xb, xo, xcap, rfl, xc1, _, xtok, xflat, xus, xrep, xlen, xf⟩ := sl_cells hI hx b5
        obtain ⟨rfl, htau⟩ := xtok tk rfl
        exact append_owned hI hu hf' hlen hle htau xc1 xflat xrep xlen xf yflat yrep ylen hnews hone b1 b2 b4
      · cases h
    · cases h
  · cases h
end

/-- a world that has other marks at a block that nothing stands for -/
theorem Inv.other {c : Ctx} {w w' : World} {s : St} (h : Inv c w s) (b : Nat) (hb : ¬ c.keep b) (hι : ∀ i, c.ι i ≠ some b) (hτ : ∀ t b' sz cap, c.τ t = some (b', sz, cap) → b' ≠ b) (hsz : w'.heap.size = w.heap.size)
    (hother : ∀ k, k ≠ b → w'.heap[k]? = w.heap[k]?) (hcell : ∀ p v, w.cell? ⟨b, p, none⟩ = some v → w'.cell? ⟨b, p, none⟩ = some v) (hos : w'.os = w.os) (hout : w'.output = w.output) : Inv c w' s := by
  refine ⟨h.pnd, h.bel, by rw [hsz]; exact h.base_le, fun k hk => ⟨(hother k (fun e => hb (e ▸ hk))).trans (h.old k hk).1, (h.old k hk).2⟩, hos.trans h.os, hout.trans h.out, fun b' p v hv => ?_, by rw [hsz]; exact h.ids, h.free, h.inj,
    fun j y b' hy hj => (h.obj j y b' hy hj).mono (Ctx.le.refl c) (hother b' fun e => hι j (e ▸ hj)), by rw [hsz]; exact h.tks, h.two, fun t len b' sz cap hl ht => ?_⟩
  · have := h.fro b' p v hv
    by_cases e : b' = b
    · subst e; exact hcell p v this
    · simp only [World.cell?] at this ⊢
      rw [hother b' e]; exact this
  · obtain ⟨h1, h2, ⟨vs, el, h3, h4⟩, h5⟩ := h.tok t len b' sz cap hl ht
    exact ⟨h1, h2, ⟨vs, el, (hother b' (hτ _ _ _ _ ht)).trans h3, h4⟩, h5⟩

theorem bytes_cells (l : List UInt8) : (l.map fun b => AV.int .u8 b.toNat).flatMap AV.cells = l.map fun b => AV.int .u8 b.toNat := by
  induction l with
  | nil => rfl
  | cons a l ih => simp only [List.map_cons, List.flatMap_cons, ih]; rfl
theorem bytes_vrs (c : Ctx) : ∀ l : List UInt8, VRs c (l.map fun b => AV.int .u8 b.toNat) (l.map fun b => Value.int .u8 b.toNat)
  | [] => .vnil
  | _ :: l => .vcons _ _ _ _ (.int _ _) (bytes_vrs c l)

theorem convBytes {P : Program} {c : Ctx} {w : World} {s : St} (hI : Inv c w s) {src dst e : TypeId} {u : TypeDesc} (sb : ByteArray) (hs : P.underlying src = some u) (hd : P.underlying dst = some (.slice e)) (he : P.underlying e = some (.int .u8)) :
    ∃ v w' c', (convert src dst (.string sb)).run P w = .ok v w' ∧ c.le c' ∧ Inv c' w' s ∧ VR c' (.sl .non (sb.data.toList.map fun b => .int .u8 b.toNat)) v := by
  have hfirst : ∀ j, j < sb.size → (Lib.bytesCells w e sb)[j]? = ((sb.data.toList.map fun b => Value.int .u8 b.toNat) : List Value)[j]? := by
    intro j hj
    unfold Lib.bytesCells
    have : j < (sb.data.map fun b => Value.int .u8 b.toNat).size := by simpa using hj
    rw [Array.getElem?_append_left this]
    simp
  obtain ⟨k1, k2⟩ := hI.drew.allocFirm (Lib.bytesCells w e sb) e sb.size
  refine ⟨_, _, _, Lib.run_convert_string_bytes w src dst e sb hs hd he, k1, ?_, ?_⟩
  · refine k2.other w.heap.size (fun hk => Nat.lt_irrefl _ (hI.base_le _ hk)) (fun i hi => ?_) (fun t b' sz cap ht => ?_) ?_ (fun k hk => ?_) (fun p v hv => ?_) rfl rfl
    · have := (hI.ids i _ hi).2.2; omega
    · have := (hI.tks t _ sz cap ht).2.2.1; omega
    · rw [Lib.bytesWorld_size]; simp
    · by_cases hlt : k < w.heap.size
      · rw [Lib.bytesWorld_at_old w e sb k hlt, heap_alloc_old _ _ _ (by simpa using hlt)]; rfl
      · have h1 : (Lib.bytesWorld w e sb).heap[k]? = none := Array.getElem?_eq_none (by rw [Lib.bytesWorld_size]; omega)
        have h2 : ((w.drew).alloc (.cells (Lib.bytesCells w e sb) e)).heap[k]? = none := Array.getElem?_eq_none (by simp; omega)
        rw [h1, h2]
    · have : v ∈ (Lib.bytesCells w e sb)[p]? := by
        have := World.cell?_alloc_new (w := w.drew) (Lib.bytesCells w e sb) e p
        rw [← this]; exact hv
      simp only [World.cell?, Lib.bytesWorld_at_new]
      exact this
  · have hlen : (sb.data.toList.map fun b => AV.int .u8 b.toNat).length = sb.size := by simp
    have := Rep.sl (c := c.frz w.heap.size fun o => if o < sb.size then (Lib.bytesCells w e sb)[o]? else none) .non (sb.data.toList.map fun b => AV.int .u8 b.toNat) w.heap.size 0 (grownCap w sb.size 0 e) 1 (by simp)
      (els_mk (vs := sb.data.toList.map fun b => Value.int .u8 b.toNat) (fun x hx => by obtain ⟨b, _, rfl⟩ := List.mem_map.1 hx; exact ⟨rfl, rfl⟩) (by rw [bytes_cells]; exact bytes_vrs _ _) fun j v hj => by
        have hj2 : j < sb.size := by have := (List.getElem?_eq_some_iff.1 hj).1; simpa using this
        show (c.frz w.heap.size fun o => if o < sb.size then (Lib.bytesCells w e sb)[o]? else none).f w.heap.size (0 + j) = some v
        simp only [Ctx.frz, if_true, Nat.zero_add]
        rw [if_pos hj2, hfirst j hj2]; exact hj) (by rw [hlen]; exact grownCap_ge _ _ _ _) (by simp) (by simp)
    rwa [hlen] at this
end Go.Sy
