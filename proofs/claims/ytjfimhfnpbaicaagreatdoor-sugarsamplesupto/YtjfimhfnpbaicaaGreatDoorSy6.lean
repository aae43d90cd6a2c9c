/- Lemmas: slices written out, slices of slices, append; no condition. -/
import Derived.Test.YtjfimhfnpbaicaaGreatDoorSy5
namespace Go.Sy
set_option linter.unusedSimpArgs false
set_option linter.unusedVariables false

theorem range_zero (zs : List Value) (k : Nat) (hk : zs.length = k) : ∀ len : Nat, (List.range (len * k)).map (fun i => zs[i % k]!) = (List.replicate len zs).flatten
  | 0 => by simp
  | len + 1 => by
    rw [Nat.succ_mul, Nat.add_comm, List.range_add, List.map_append, List.replicate_succ, List.flatten_cons, List.map_map]
    congr 1
    · apply List.ext_getElem
      · simp [hk]
      · intro i h1 h2
        have hi : i < k := by simpa using h1
        simp [Nat.mod_eq_of_lt hi, hk, hi]
    · rw [← range_zero zs k hk len]
      apply List.map_congr_left
      intro i _
      simp

section
variable {P : Program} {T : Nat → Option TI} {c : Ctx} {w : World} {s : St}

theorem VRs.rep {x : AV} {zs : List Value} (h : VRs c x.cells zs) : ∀ len, VRs c ((List.replicate len x).flatMap AV.cells) (List.replicate len zs).flatten
  | 0 => .vnil
  | len + 1 => by rw [List.replicate_succ, List.flatMap_cons, List.replicate_succ, List.flatten_cons]; exact VRs.append h (VRs.rep h len)

theorem flatMap_set {k : Nat} (y : AV) : ∀ (xs : List AV) (i : Nat), (∀ x ∈ xs, x.cells.length = k) → i < xs.length →
    (xs.set i y).flatMap AV.cells = (xs.flatMap AV.cells).take (i * k) ++ y.cells ++ (xs.flatMap AV.cells).drop (i * k + k)
  | [], i, _, h => by simp at h
  | x :: xs, 0, hx, _ => by
    have := hx x (by simp)
    simp only [List.set_cons_zero, List.flatMap_cons, Nat.zero_mul, List.take_zero, List.nil_append, Nat.zero_add]
    rw [List.drop_append_of_le_length (by omega), List.drop_of_length_le (by omega), List.nil_append]
  | x :: xs, i + 1, hx, h => by
    have h1 := hx x (by simp)
    have ih := flatMap_set y xs i (fun z hz => hx z (by simp [hz])) (by simpa using h)
    simp only [List.set_cons_succ, List.flatMap_cons]
    have e1 : (x.cells ++ xs.flatMap AV.cells).take (i * k + k) = x.cells ++ (xs.flatMap AV.cells).take (i * k) := by
      rw [List.take_append, List.take_of_length_le (by omega), show i * k + k - x.cells.length = i * k by omega]
    have e2 : (x.cells ++ xs.flatMap AV.cells).drop (i * k + k + k) = (xs.flatMap AV.cells).drop (i * k + k) := by
      rw [List.drop_append, List.drop_of_length_le (by omega), show i * k + k + k - x.cells.length = i * k + k by omega, List.nil_append]
    rw [ih, Nat.succ_mul, e1, e2]
    simp

theorem flat_len {k : Nat} : ∀ xs : List AV, (∀ x ∈ xs, x.cells.length = k) → (xs.flatMap AV.cells).length = xs.length * k
  | [], _ => by simp
  | x :: xs, h => by simp [h x (by simp), flat_len xs (fun y hy => h y (by simp [hy])), Nat.succ_mul]; omega

theorem erase_len (x : AV) : x.erase.cells.length = x.cells.length := by rw [erase_cells]; simp

theorem fillEls_sound {size : Nat} : ∀ (ps : List (Nat × AV)) (qs : List (Nat × Value)) (xs r : List AV) (vs : Array Value), Parts c ps qs →
    fillEls size xs ps = some r → (∀ x ∈ xs, x.cells.length = size ∧ x.flat = true) → VRs c (xs.flatMap AV.cells) vs.toList →
    ∃ us, Instr.fill (fun i => some (i * size, size)) vs qs = some us ∧ VRs c (r.flatMap AV.cells) us.toList ∧ (∀ x ∈ r, x.cells.length = size ∧ x.flat = true) ∧ r.length = xs.length
  | [], [], xs, r, vs, _, h, hx, hv => by
    simp only [fillEls] at h; cases h
    exact ⟨vs, rfl, hv, hx, rfl⟩
  | [], q :: qs, _, _, _, h, _, _, _ => h.elim
  | p :: ps, [], _, _, _, h, _, _, _ => h.elim
  | (i, a) :: ps, (j, v) :: qs, xs, r, vs, ⟨e, ha, hp⟩, h, hx, hv => by
    simp only at e; subst e
    simp only [fillEls] at h
    split at h
    · cases h
    · rename_i hne
      cases hb : (Nat.blt i xs.length && Nat.beq a.cells.length size && a.erase.flat) with
      | false => rw [hb] at h; cases h
      | true =>
        rw [hb] at h
        simp only [cond_true] at h
        simp only [Bool.and_eq_true] at hb
        obtain ⟨⟨hb1, hb2⟩, hb3⟩ := hb
        have hi : i < xs.length := by have := hb1; simp [Nat.blt] at this; omega
        have hsz := Nat.eq_of_beq_eq_true hb2
        have hcv := cells_rep ha (fun e => hne e)
        have hl1 := VRs.length hcv
        have hl3 := VRs.length hv
        have hfl := flat_len xs (fun x hx' => (hx x hx').1)
        simp only [Array.length_toList] at hl1 hl3
        have hmul : i * size + size ≤ xs.length * size := by
          have := Nat.mul_le_mul_right size (show i + 1 ≤ xs.length by omega)
          rw [Nat.succ_mul] at this; exact this
        have hfold := fold_set v.cells.toList 0 (i * size) vs (by simp; omega)
        simp only [Nat.add_zero, Array.length_toList] at hfold
        have hset := flatMap_set (k := size) a.erase xs i (fun x hx' => (hx x hx').1) hi
        have hnew : VRs c ((xs.set i a.erase).flatMap AV.cells) (vs.toList.take (i * size) ++ v.cells.toList ++ vs.toList.drop (i * size + v.cells.size)) := by
          rw [hset]
          refine VRs.append (VRs.append (VRs.take _ hv) (by rw [erase_cells]; exact VRs.erase hcv)) ?_
          rw [show i * size + size = i * size + v.cells.size by omega]; exact VRs.drop _ hv
        obtain ⟨us, g1, g2, g3, g4⟩ := fillEls_sound ps qs (xs.set i a.erase) r (v.cells.zipIdx.foldl (fun (cs : Array Value) (p : Value × Nat) => cs.setIfInBounds (i * size + p.2) p.1) vs) hp h (fun x hx' => by
            rcases List.mem_or_eq_of_mem_set hx' with h1 | h1
            · exact hx x h1
            · subst h1; exact ⟨by rw [erase_len]; exact hsz, hb3⟩) (by
            rw [← Array.foldl_toList, Array.toList_zipIdx, hfold]; exact hnew)
        refine ⟨us, ?_, g2, g3, by rw [g4]; simp⟩
        unfold Instr.fill
        simp only
        rw [if_neg (by simp; omega)]
        exact g1

theorem buildSlice_sound (hT : TOK P T) (hI : Inv c w s) {t e : TypeId} {ti te : TI} (ht : T t = some ti) (hk : ti.k = .slice e) (hte : T e = some te) {len : Nat} (hb : len * te.size ≤ 16777216) (hz : te.zero.flat = true)
    {ps : List (Nat × AV)} {qs : Array (Nat × Value)} {xs : List AV} (hp : Parts c ps qs.toList) (h : fillEls te.size (List.replicate len te.zero) ps = some xs) :
    ∃ v w' c', (Instr.buildSlice t len qs).run P w = .ok v w' ∧ c.le c' ∧ Inv c' w' s ∧ VR c' (.sl .full xs) v := by
  obtain ⟨i, d, z, hf⟩ := tfacts hT ht
  obtain ⟨i', d', z', hf'⟩ := tfacts hT hte
  obtain rfl := tk_slice (hf.k.symm.trans hk)
  have hzc := zero_cells hf' c
  have hzl := VRs.length hzc
  have hzs := hf'.zsize
  simp only [Array.length_toList] at hzl
  have h0 : VRs c ((List.replicate len te.zero).flatMap AV.cells) ((Array.range (len * te.size)).map (fun i => z'.cells[i % te.size]!)).toList := by
    have e1 : ((Array.range (len * te.size)).map (fun i => z'.cells[i % te.size]!)).toList = (List.range (len * te.size)).map (fun i => z'.cells.toList[i % te.size]!) := by
      simp only [Array.toList_map, Array.toList_range]
      apply List.map_congr_left
      intro a _
      cases h : z'.cells[a % te.size]? <;> simp [getElem!_def, h]
    rw [e1, range_zero z'.cells.toList te.size (by simpa using hzs) len]
    exact VRs.rep hzc len
  obtain ⟨us, g1, g2, g3, g4⟩ := fillEls_sound ps qs.toList _ xs _ hp h (fun x hx => by
    obtain rfl := (List.mem_replicate.1 hx).2
    exact ⟨by omega, hz⟩) h0
  have g5 : xs.length = len := by rw [g4]; simp
  obtain ⟨k1, k2⟩ := hI.allocFirm us e us.size
  have hrun : (Instr.buildSlice t len qs).run P w = .ok (.slice (some ⟨w.heap.size, 0, none⟩) len len) (w.alloc (.cells us e)) := by
    have hnot : ¬ len * te.size > 2 ^ 24 := by omega
    simp only [Instr.buildSlice, Sem.run_bind, run_underlying hf.und, Result.andThen_ok, run_sizeOf' hf', if_neg hnot, Sem.run_pure]
    by_cases h00 : len * te.size = 0
    · rw [if_pos h00]
      have r0 : Array.range 0 = #[] := rfl
      have g1' : Instr.fill (fun i => some (i * te.size, te.size)) #[] qs.toList = some us := by simpa [h00, r0] using g1
      simp [h00, g1', newRow, r0]
    · rw [if_neg h00]
      simp only [Sem.run_bind, run_zero' hf', Result.andThen_ok, Sem.run_pure]
      rw [hzs, g1]
      simp [newRow]
  refine ⟨_, _, _, hrun, k1, k2, ?_⟩
  have := Rep.sl (c := c.frz w.heap.size fun o => if o < us.size then us[o]? else none) .full xs w.heap.size 0 len te.size (by simp) (els_mk g3 (g2.mono k1) fun j v hj => by
    have hlt : j < us.size := by
      have := (List.getElem?_eq_some_iff.1 hj).1; simpa using this
    simp only [Ctx.frz, if_true, Nat.zero_add]
    rw [if_pos hlt]; simpa using hj) (by omega) ⟨fun _ => g5.symm, by simp⟩ (by simp)
  rwa [g5] at this
end
end Go.Sy
