/- Lemmas: the operations that make and take apart values; no condition. -/
import Derived.Test.YtjfimhfnpbaicaaGreatDoorSy4
namespace Go.Sy
set_option linter.unusedSimpArgs false
set_option linter.unusedVariables false

theorem fold_set : ∀ (vs : List Value) (k off : Nat) (cs : Array Value), off + k + vs.length ≤ cs.size →
    ((vs.zipIdx k).foldl (fun (cs : Array Value) (p : Value × Nat) => cs.setIfInBounds (off + p.2) p.1) cs).toList = cs.toList.take (off + k) ++ vs ++ cs.toList.drop (off + k + vs.length)
  | [], k, off, cs, h => by simp
  | v :: vs, k, off, cs, h => by
    simp only [List.zipIdx_cons, List.foldl_cons]
    rw [fold_set vs (k + 1) off _ (by simp at h ⊢; omega)]
    simp only [Array.toList_setIfInBounds]
    have h1 : off + k < cs.toList.length := by simp at h ⊢; omega
    rw [show off + (k + 1) = off + k + 1 by omega, List.take_succ_eq_append_getElem (by simpa using h1)]
    rw [List.take_set_of_le (by omega)]
    simp only [List.getElem_set_self, List.length_cons]
    rw [List.drop_set_of_lt (by omega)]
    simp
    congr 1
    omega

section
variable {P : Program} {T : Nat → Option TI} {c : Ctx} {w : World} {s : St}

/-- parts that are put into cells -/
def Parts (c : Ctx) : List (Nat × AV) → List (Nat × Value) → Prop
  | [], [] => True
  | p :: r, q :: u => p.1 = q.1 ∧ VR c p.2 q.2 ∧ Parts c r u
  | _, _ => False
theorem parts_of {f : Operand → AV} {g : Operand → Value} (h : ∀ x, VR c (f x) (g x)) : ∀ l : List (Nat × Operand), Parts c (l.map fun p => (p.1, f p.2)) (l.map fun p => (p.1, g p.2))
  | [] => trivial
  | p :: l => ⟨rfl, h p.2, parts_of h l⟩

theorem fill_sound {place : Nat → Option (Nat × Nat)} : ∀ (ps : List (Nat × AV)) (qs : List (Nat × Value)) (rs : List (Nat × AV)) (cs r : List AV) (vs : Array Value), Parts c ps qs →
    placeParts T place ps = some rs → fillCells cs rs = some r → VRs c cs vs.toList → ∃ us, Instr.fill place vs qs = some us ∧ VRs c r us.toList
  | [], [], rs, cs, r, vs, _, h1, h2, h3 => by
    simp only [placeParts] at h1; cases h1
    simp only [fillCells] at h2; cases h2
    exact ⟨vs, rfl, h3⟩
  | [], q :: qs, rs, cs, r, vs, h, _, _, _ => h.elim
  | p :: ps, [], rs, cs, r, vs, h, _, _, _ => h.elim
  | (i, a) :: ps, (j, v) :: qs, rs, cs, r, vs, ⟨e, ha, hp⟩, h1, h2, h3 => by
    simp only at e; subst e
    simp only [placeParts] at h1
    cases hpl : place i with
    | none => rw [hpl] at h1; cases h1
    | some q =>
      obtain ⟨off, size⟩ := q
      rw [hpl] at h1
      simp only at h1
      cases hb : Nat.beq a.cells.length size with
      | false => rw [hb] at h1; cases h1
      | true =>
        rw [hb] at h1
        simp only [cond_true] at h1
        cases hr : placeParts T place ps with
        | none => rw [hr] at h1; cases h1
        | some q =>
          rw [hr] at h1; cases h1
          have hsz := Nat.eq_of_beq_eq_true hb
          simp only [fillCells] at h2
          split at h2
          · cases h2
          · rename_i hne
            cases hc : Nat.ble (off + a.cells.length) cs.length with
            | false => rw [hc] at h2; cases h2
            | true =>
              rw [hc] at h2
              simp only [cond_true] at h2
              have hle := Nat.le_of_ble_eq_true hc
              have hcv := cells_rep ha (fun e => hne e)
              have hl1 := VRs.length hcv
              have hl3 := VRs.length h3
              simp only [Array.length_toList] at hl1 hl3
              have hfold := fold_set v.cells.toList 0 off vs (by simp; omega)
              simp only [Nat.add_zero, Array.length_toList] at hfold
              have hnew : VRs c (cs.take off ++ a.cells ++ cs.drop (off + a.cells.length)) (vs.toList.take off ++ v.cells.toList ++ vs.toList.drop (off + v.cells.size)) := by
                refine VRs.append (VRs.append (VRs.take off h3) hcv) ?_
                rw [hl1]; exact VRs.drop _ h3
              obtain ⟨us, g1, g2⟩ := fill_sound ps qs _ _ r (v.cells.zipIdx.foldl (fun (cs : Array Value) (p : Value × Nat) => cs.setIfInBounds (off + p.2) p.1) vs) hp hr h2 (by
                rw [← Array.foldl_toList, Array.toList_zipIdx, hfold]; exact hnew)
              refine ⟨us, ?_, g2⟩
              unfold Instr.fill
              rw [hpl]
              simp only
              rw [if_neg (by simp; omega)]
              exact g1

theorem field_get {fields : Array Field} {f : Nat} {off ft : Nat} (h : (fields.toList.map fun f => (f.offset, f.type))[f]? = some (off, ft)) : ∃ fld, fields[f]? = some fld ∧ fld.offset = off ∧ fld.type = ft := by
  rw [List.getElem?_map] at h
  cases hx : fields.toList[f]? with
  | none => rw [hx] at h; cases h
  | some fld =>
    rw [hx] at h
    simp only [Option.map_some, Option.some.injEq, Prod.mk.injEq] at h
    exact ⟨fld, by simpa using hx, h.1, h.2⟩

theorem tk_struct {d : TypeDesc} {fs : List (Nat × Nat)} (h : tkOf d = .struct fs) : ∃ fields, d = .struct fields ∧ fs = fields.toList.map fun f => (f.offset, f.type) := by
  cases d <;> first | (cases h; done) | skip
  rename_i fields
  simp only [tkOf] at h
  cases h
  exact ⟨fields, rfl, rfl⟩
theorem tk_slice {d : TypeDesc} {e : Nat} (h : tkOf d = .slice e) : d = .slice e := by
  cases d <;> first | (cases h; done) | skip
  cases h; rfl
theorem tk_arr {d : TypeDesc} {n e : Nat} (h : tkOf d = .arr n e) : d = .array n e := by
  cases d <;> first | (cases h; done) | skip
  cases h; rfl
theorem tk_map {d : TypeDesc} {k e : Nat} (h : tkOf d = .map k e) : d = .map k e := by
  cases d <;> first | (cases h; done) | skip
  cases h; rfl
theorem tk_str {d : TypeDesc} (h : tkOf d = .str) : d = .string := by
  cases d <;> first | (cases h; done) | rfl
theorem tk_int {d : TypeDesc} {k : IntKind} (h : tkOf d = .int k) : d = .int k := by
  cases d <;> first | (cases h; done) | skip
  cases h; rfl

theorem mapM_places (hT : TOK P T) : ∀ (fields : List Field) (w : World), ((fields.map fun f => (f.offset, f.type)).all fun q => (T q.2).isSome) = true →
    ∃ l, (fields.mapM fun f => do pure (f.offset, ← sizeOf f.type) : Sem (List (Nat × Nat))).run P w = .ok l w ∧ ∀ i, l[i]? = fieldAt T (fields.map fun f => (f.offset, f.type)) i
  | [], w, _ => ⟨[], by simp, fun i => by simp [fieldAt]⟩
  | f :: fields, w, h => by
    simp only [List.map_cons, List.all_cons, Bool.and_eq_true] at h
    obtain ⟨ti, hti⟩ := Option.isSome_iff_exists.1 h.1
    obtain ⟨i, d, z, hf⟩ := tfacts hT hti
    obtain ⟨l, h1, h2⟩ := mapM_places hT fields w h.2
    refine ⟨(f.offset, ti.size) :: l, ?_, fun i => ?_⟩
    · rw [List.mapM_cons]
      simp only [Sem.run_bind, run_sizeOf' hf, Result.andThen_ok, h1, Sem.run_pure]
    · cases i with
      | zero => simp [fieldAt, hti]
      | succ i => simpa [fieldAt] using h2 i

theorem build_struct (hT : TOK P T) {t : TypeId} {ti : TI} (ht : T t = some ti) {fs : List (Nat × Nat)} (hk : ti.k = .struct fs) (hall : (fs.all fun q => (T q.2).isSome) = true)
    {ps : List (Nat × AV)} {qs : Array (Nat × Value)} {rs : List (Nat × AV)} {r : List AV} (hp : Parts c ps qs.toList) (h1 : placeParts T (fieldAt T fs) ps = some rs) (h2 : fillCells ti.zero.cells rs = some r) (w : World) :
    ∃ us, (Instr.build t qs).run P w = .ok (.agg us) w ∧ VRs c r us.toList := by
  obtain ⟨i, d, z, hf⟩ := tfacts hT ht
  obtain ⟨fields, rfl, rfl⟩ := tk_struct (hf.k.symm.trans hk)
  obtain ⟨l, g1, g2⟩ := mapM_places hT fields.toList w hall
  have e : (fieldAt T (fields.toList.map fun f => (f.offset, f.type))) = (l.toArray[·]?) := funext fun i => by rw [← g2 i]; simp
  rw [e] at h1
  obtain ⟨us, k1, k2⟩ := fill_sound ps qs.toList rs _ r z.cells hp h1 h2 (zero_cells hf c)
  refine ⟨us, ?_, k2⟩
  have hm : (fields.mapM fun f => do pure (f.offset, ← sizeOf f.type) : Sem (Array (Nat × Nat))).run P w = .ok l.toArray w := by
    rw [Array.mapM_eq_mapM_toList]
    simp only [Sem.run_map, g1, Result.andThen_ok]
  simp only [Instr.build, Sem.run_bind, run_zero' hf, Result.andThen_ok, run_underlying hf.und, hm, k1, Sem.run_pure]

theorem build_arr (hT : TOK P T) {t e : TypeId} {ti te : TI} (ht : T t = some ti) {n : Nat} (hk : ti.k = .arr n e) (hte : T e = some te)
    {ps : List (Nat × AV)} {qs : Array (Nat × Value)} {rs : List (Nat × AV)} {r : List AV} (hp : Parts c ps qs.toList) (h1 : placeParts T (fun i => some (i * te.size, te.size)) ps = some rs) (h2 : fillCells ti.zero.cells rs = some r) (w : World) :
    ∃ us, (Instr.build t qs).run P w = .ok (.agg us) w ∧ VRs c r us.toList := by
  obtain ⟨i, d, z, hf⟩ := tfacts hT ht
  obtain ⟨i', d', z', hf'⟩ := tfacts hT hte
  obtain rfl := tk_arr (hf.k.symm.trans hk)
  obtain ⟨us, k1, k2⟩ := fill_sound ps qs.toList rs _ r z.cells hp h1 h2 (zero_cells hf c)
  exact ⟨us, by simp only [Instr.build, Sem.run_bind, run_zero' hf, Result.andThen_ok, run_underlying hf.und, run_sizeOf' hf', k1, Sem.run_pure], k2⟩

theorem fieldAddr_sound (hT : TOK P T) {st : TypeId} {ti tf : TI} {f off ft : Nat} {fs : List (Nat × Nat)} (ht : T st = some ti) (hk : ti.k = .struct fs) (hf : fs[f]? = some (off, ft)) (htf : T ft = some tf) (hz : Nat.beq tf.size 0 = false)
    (b o : Nat) (w : World) : (Instr.fieldAt st (.pointer (some ⟨b, o, none⟩)) f).run P w = .ok (.pointer (some ⟨b, o + off, none⟩)) w := by
  obtain ⟨i, d, z, hfa⟩ := tfacts hT ht
  obtain ⟨i', d', z', hfb⟩ := tfacts hT htf
  obtain ⟨fields, rfl, rfl⟩ := tk_struct (hfa.k.symm.trans hk)
  obtain ⟨fld, g1, g2, g3⟩ := field_get hf
  have hne : ¬ tf.size = 0 := fun e => by rw [beq_of e] at hz; cases hz
  subst g2 g3
  simp only [Instr.fieldAt, Sem.run_bind, run_underlying hfa.und, Result.andThen_ok, g1, Instr.sureAddr, Sem.run_pure, fieldPlace, run_sizeOf' hfb, if_neg hne, addr_add]

theorem field_sound (hT : TOK P T) {st : TypeId} {ti tf : TI} {f off ft : Nat} {fs : List (Nat × Nat)} (ht : T st = some ti) (hk : ti.k = .struct fs) (hf : fs[f]? = some (off, ft)) (htf : T ft = some tf)
    {cs : List AV} {vs : Array Value} (hc : VRs c cs vs.toList) {u : AV} (hu : AV.pickCells tf.isAgg tf.size (cs.drop off) = some u) (w : World) : ∃ v, (Instr.field st (.agg vs) f).run P w = .ok v w ∧ VR c u v := by
  obtain ⟨i, d, z, hfa⟩ := tfacts hT ht
  obtain ⟨fields, rfl, rfl⟩ := tk_struct (hfa.k.symm.trans hk)
  obtain ⟨fld, g1, g2, g3⟩ := field_get hf
  subst g2 g3
  obtain ⟨v, h1, h2⟩ := part_list hT htf hc hu w
  exact ⟨v, by simp only [Instr.field, Sem.run_bind, run_underlying hfa.und, Result.andThen_ok, g1, asAgg, Sem.run_pure, h1], h2⟩

theorem idxOf_sound {a : AV} {n : Nat} (h : idxOf a = some n) {v : Value} (hv : VR c a v) : ∃ k, v = .int k (n : Int) := by
  unfold idxOf at h
  split at h
  · cases h; cases hv; exact ⟨_, rfl⟩
  · cases h

theorem indexAt_slice (hT : TOK P T) {t e : TypeId} {ti te : TI} (ht : T t = some ti) (hk : ti.k = .slice e) (hte : T e = some te) {b o len cap n : Nat} (hn : n < len) (k : IntKind) (w : World) :
    (Instr.indexAt t (.slice (some ⟨b, o, none⟩) len cap) (.int k n)).run P w = .ok (.pointer (some ⟨b, o + n * te.size, none⟩)) w := by
  obtain ⟨i, d, z, hf⟩ := tfacts hT ht
  obtain ⟨i', d', z', hf'⟩ := tfacts hT hte
  obtain rfl := tk_slice (hf.k.symm.trans hk)
  have h1 : (0 : Int) ≤ (n : Int) ∧ (n : Int) < (len : Int) := by omega
  simp only [Instr.indexAt, asIntOf, Sem.run_bind, run_underlying hf.und, Sem.run_pure, Result.andThen_ok, if_pos h1, run_sizeOf' hf', Int.toNat_natCast, addr_add]
theorem indexAt_arr (hT : TOK P T) {t e : TypeId} {ti te : TI} (ht : T t = some ti) {len : Nat} (hk : ti.k = .arr len e) (hte : T e = some te) {b o n : Nat} (hn : n < len) (k : IntKind) (w : World) :
    (Instr.indexAt t (.pointer (some ⟨b, o, none⟩)) (.int k n)).run P w = .ok (.pointer (some ⟨b, o + n * te.size, none⟩)) w := by
  obtain ⟨i, d, z, hf⟩ := tfacts hT ht
  obtain ⟨i', d', z', hf'⟩ := tfacts hT hte
  obtain rfl := tk_arr (hf.k.symm.trans hk)
  have h1 : (0 : Int) ≤ (n : Int) ∧ (n : Int) < (len : Int) := by omega
  simp only [Instr.indexAt, asIntOf, Sem.run_bind, run_underlying hf.und, Instr.sureAddr, Sem.run_pure, Result.andThen_ok, if_pos h1, run_sizeOf' hf', Int.toNat_natCast, addr_add]
theorem index_str (hT : TOK P T) {t : TypeId} {ti : TI} (ht : T t = some ti) (hk : ti.k = .str) {s : ByteArray} {n : Nat} {u : UInt8} (hn : s.data.toList[n]? = some u) (k : IntKind) (w : World) :
    (Instr.index t (.string s) (.int k n)).run P w = .ok (.int .u8 u.toNat) w := by
  obtain ⟨i, d, z, hf⟩ := tfacts hT ht
  obtain rfl := tk_str (hf.k.symm.trans hk)
  have h1 : (0 : Int) ≤ (n : Int) := by omega
  have h2 : s[n]? = some u := by
    have hlt : n < s.data.toList.length := (List.getElem?_eq_some_iff.1 hn).1
    have hsz : n < s.size := by simpa using hlt
    rw [getElem?_pos s n hsz]
    have := (List.getElem?_eq_some_iff.1 hn).2
    rw [← this]; rfl
  simp only [Instr.index, asIntOf, Sem.run_bind, run_underlying hf.und, Sem.run_pure, Result.andThen_ok, if_pos h1, Int.toNat_natCast, h2]
theorem index_arr (hT : TOK P T) {t e : TypeId} {ti te : TI} (ht : T t = some ti) {len : Nat} (hk : ti.k = .arr len e) (hte : T e = some te) {cs : List AV} {vs : Array Value} (hc : VRs c cs vs.toList) {n : Nat} (hn : n < len)
    {u : AV} (hu : AV.pickCells te.isAgg te.size (cs.drop (n * te.size)) = some u) (k : IntKind) (w : World) :
    ∃ v, (Instr.index t (.agg vs) (.int k n)).run P w = .ok v w ∧ VR c u v := by
  obtain ⟨i, d, z, hf⟩ := tfacts hT ht
  obtain ⟨i', d', z', hf'⟩ := tfacts hT hte
  obtain rfl := tk_arr (hf.k.symm.trans hk)
  have h1 : (0 : Int) ≤ (n : Int) ∧ (n : Int) < (len : Int) := by omega
  obtain ⟨v, g1, g2⟩ := part_list hT hte hc hu w
  exact ⟨v, by simp only [Instr.index, asIntOf, Sem.run_bind, run_underlying hf.und, Sem.run_pure, Result.andThen_ok, if_pos h1, run_sizeOf' hf', Int.toNat_natCast, g1], g2⟩
end
end Go.Sy
