/- Lemmas: stores, maps, and every operation at once; no condition. -/
import Derived.Test.YtjfimhfnpbaicaaGreatDoorSy8
namespace Go.Sy
set_option linter.unusedSimpArgs false
set_option linter.unusedVariables false
section
variable {P : Program} {T : Nat → Option TI} {c : Ctx} {w : World} {s : St}

theorem store_sound (hT : TOK P T) (hI : Inv c w s) {t : TypeId} {ti : TI} (ht : T t = some ti) {id off b : Nat} {cs : List AV} (hx : aget s.objs id = some (.cells cs)) (hi : c.ι id = some b)
    {v : AV} {u : Value} (hv : VR c v u) (h1 : v.cells.length = ti.size) (h2 : v.cells.all AV.one = true) (h3 : off + ti.size ≤ cs.length) (e : Nat) :
    ∃ w', (Instr.storeAt t (.pointer (some ⟨b, off, none⟩)) u).run P w = .ok () w' ∧ Inv c w' { n := s.n, objs := aset s.objs id (.cells (cs.take off ++ v.cells ++ cs.drop (off + ti.size))), lo := e } := by
  obtain ⟨i, d, z, hf⟩ := tfacts hT ht
  obtain ⟨vs, el, g1, g2⟩ := hI.obj id _ b hx hi
  have hne : v ≠ .any := fun e => by subst e; simp [AV.cells, AV.one] at h2
  have hcv := cells_rep hv hne
  have hl1 := VRs.length hcv
  have hl2 := VRs.length g2
  simp only [Array.length_toList] at hl1 hl2
  have hst := run_storeCells_at P b off el u.cells.toList 0 vs w g1 (by simp; omega) (ones_rep hcv fun x hx => List.all_eq_true.1 h2 x hx)
  simp only [Nat.add_zero] at hst
  have hsz : ¬ (u.cells.size ≠ ti.size) := by omega
  refine ⟨w.setRow b (vs.toList.take off ++ u.cells.toList ++ vs.toList.drop (off + u.cells.toList.length)).toArray, by simp only [Instr.storeAt, Instr.sureAddr, storeVar, Sem.run_bind, Sem.run_pure, Result.andThen_ok, run_sizeOf' hf, if_neg hsz, hst], ?_⟩
  refine hI.turn hx rfl hi (by simp) (fun k hk => setRow_other w b k _ hk) rfl rfl ?_ e
  refine ⟨_, el, setRow_heap w b vs _ el _ g1, ?_⟩
  refine VRs.append (VRs.append (VRs.take off g2) hcv) ?_
  rw [show off + u.cells.toList.length = off + ti.size by simp; omega]
  exact VRs.drop _ g2

theorem plainKey_desc {t : TypeId} {ti : TI} {i : TypeInfo} {d : TypeDesc} {z : Value} (hf : TFacts P t ti i d z) {kd : Nat} (h : plainKey ti = some kd) : (∃ k, d = .int k ∧ kd = 0) ∨ (d = .string ∧ kd = 1) := by
  unfold plainKey at h
  rw [hf.k] at h
  cases d <;> first | (cases h; done) | skip
  · simp only [tkOf] at h; cases h; exact .inl ⟨_, rfl, rfl⟩
  · simp only [tkOf] at h; cases h; exact .inr ⟨rfl, rfl⟩
theorem run_checkKey {t : TypeId} {d : TypeDesc} (hu : P.underlying t = some d) (hd : (∃ k, d = .int k) ∨ d = .string) (b : Bool) (v : Value) (w : World) : (Instr.checkKey b 10000 t v).run P w = .ok () w := by
  obtain ⟨N, hN⟩ : ∃ N, 10000 = N + 1 := ⟨9999, rfl⟩
  rw [hN]
  rcases hd with ⟨k, rfl⟩ | rfl
  · simp [Instr.checkKey, run_underlying hu]
  · simp [Instr.checkKey, run_underlying hu]

theorem sameNow_of {d : TypeDesc} {kd : Nat} (hd : (∃ k, d = .int k ∧ kd = 0) ∨ (d = .string ∧ kd = 1)) {k x : AV} {b : Bool} (h : kindBeq kd k x = some b) {vk vx : Value} (hk : VR c k vk) (hx : VR c x vx) :
    Instr.sameNow d vk vx = some b ∧ (b = true → Instr.sameBits 10000 vx vk = true) := by
  obtain ⟨N, hN⟩ : ∃ N, 10000 = N + 1 := ⟨9999, rfl⟩
  rw [hN]
  rcases hd with ⟨k', rfl, rfl⟩ | ⟨rfl, rfl⟩
  · unfold kindBeq at h
    split at h <;> first | (rename_i e; cases e; done) | skip
    all_goals first | (cases h; done) | skip
    split at h
    · subst_vars; cases h; cases hk; cases hx
      refine ⟨by simp [Instr.sameNow]; rfl, fun hb => ?_⟩
      have := of_decide_eq_true hb
      subst this
      simp [Instr.sameBits]
    · cases h
  · unfold kindBeq at h
    split at h <;> first | (rename_i e; cases e; done) | skip
    all_goals first | (cases h; done) | skip
    cases h; cases hk; cases hx
    rename_i s1 s2
    have e1 : (s1 == s2) = strBeq s1.data.toList s2.data.toList := by rw [strBeq_iff, beq_toListBytes, ByteArray.toList_eq, ByteArray.toList_eq]
    refine ⟨by simp [Instr.sameNow, e1], fun hb => ?_⟩
    have e2 : (s2 == s1) = true := by
      rw [strBeq_iff] at hb
      have e3 : s1.data.toList = s2.data.toList := by simpa using hb
      rw [beq_toListBytes, ByteArray.toList_eq, ByteArray.toList_eq, e3]
      simp
    simp [Instr.sameBits, e2]

theorem find_sound {d : TypeDesc} {kd : Nat} (hd : (∃ k, d = .int k ∧ kd = 0) ∨ (d = .string ∧ kd = 1)) {k : AV} {vk : Value} (hk : VR c k vk) : ∀ {es : List (AV × AV)} {l : List MapEntry} {r : Option AV} (i : Nat), Ents c es l → mfind kd k es = some r →
    (match r with
    | none => Instr.findNow d vk l i = some none ∧ ∀ v, mput kd k v es = es ++ [(k, v)]
    | some v => ∃ j u, Instr.findNow d vk l i = some (some (i + j, u)) ∧ VR c v u ∧ (∃ e, l[j]? = some e ∧ Instr.sameBits 10000 e.key vk = true) ∧
        ∀ v' u' , VR c v' u' → Ents c (mput kd k v' es) (l.modify j fun e => { e with key := vk, val := u' }))
  | [], l, r, i, he, h => by
    cases he
    simp only [mfind] at h; cases h
    exact ⟨rfl, fun v => rfl⟩
  | (x, v) :: es, l, r, i, he, h => by
    cases he with
    | cons _ _ _ e l h1 h2 h3 =>
      simp only [mfind] at h
      split at h
      · rename_i hb
        cases h
        obtain ⟨g1, g2⟩ := sameNow_of hd hb hk h1
        refine ⟨0, e.val, by simp [Instr.findNow, g1], h2, ⟨e, rfl, g2 rfl⟩, fun v' u' hv' => ?_⟩
        simp only [mput, hb]
        exact .cons _ _ _ _ _ hk hv' h3
      · rename_i hb
        obtain ⟨g1, g2⟩ := sameNow_of hd hb hk h1
        have ih := find_sound hd hk (i + 1) h3 h
        cases r with
        | none =>
          simp only at ih ⊢
          refine ⟨by simp [Instr.findNow, g1, ih.1], fun v' => ?_⟩
          simp only [mput, hb]
          rw [ih.2 v']; rfl
        | some v0 =>
          simp only at ih ⊢
          obtain ⟨j, u, k1, k2, ⟨e', k3, k4⟩, k5⟩ := ih
          refine ⟨j + 1, u, by simp [Instr.findNow, g1, k1]; omega, k2, ⟨e', by simpa using k3, k4⟩, fun v' u' hv' => ?_⟩
          simp only [mput, hb]
          exact .cons _ _ _ _ _ h1 h2 (k5 v' u' hv')
      · cases h
theorem Ents.append {es : List (AV × AV)} {l : List MapEntry} (h : Ents c es l) {k v : AV} {e : MapEntry} (hk : VR c k e.key) (hv : VR c v e.val) : Ents c (es ++ [(k, v)]) (l ++ [e]) := by
  induction h with
  | nil => exact .cons _ _ _ _ _ hk hv .nil
  | cons k v es e l h1 h2 _ ih => exact .cons _ _ _ _ _ h1 h2 ih

theorem run_getMap {r : Nat} {es : Array MapEntry} {clock : Nat} (h : w.heap[r]? = some (.map es clock)) : (getObj r).run P w = .ok (.map es clock) w := by
  simp [getObj, Sem.run, h]
theorem run_setMap {r : Nat} {es : Array MapEntry} {clock : Nat} {o : Obj} (h : w.heap[r]? = some (.map es clock)) : (setObj r o).run P w = .ok () { w with heap := w.heap.setIfInBounds r o } := by
  simp [setObj, Sem.run, h]

theorem lookup_sound (hT : TOK P T) (hI : Inv c w s) {t kt et : TypeId} {ti tk te : TI} (ht : T t = some ti) (hk : ti.k = .map kt et) (htk : T kt = some tk) (hte : T et = some te) {kd : Nat} (hp : plainKey tk = some kd)
    {m k : AV} {vm vk : Value} (hm : VR c m vm) (hkk : VR c k vk) {r : Option AV}
    (h : mlook s kd m k = some r) (ok : Bool) :
    ∃ v, (Instr.lookup t vm vk ok).run P w = .ok v w ∧ VR c (match r with | some v => cond ok (.tup [v, .bool true]) v | none => cond ok (.tup [te.zero, .bool false]) te.zero) v := by
  obtain ⟨i, d, z, hf⟩ := tfacts hT ht
  obtain ⟨i1, d1, z1, hf1⟩ := tfacts hT htk
  obtain ⟨i2, d2, z2, hf2⟩ := tfacts hT hte
  have hd := tk_map (hf.k.symm.trans hk)
  have hu := hf.und
  rw [hd] at hu
  have hpk := plainKey_desc hf1 hp
  have hck := run_checkKey hf1.und (hpk.imp (fun ⟨k, e, _⟩ => ⟨k, e⟩) (fun e => e.1))
  unfold mlook at h
  cases hm with
  | nilmap =>
    simp only at h
    cases h
    have hfk : (Instr.findKey kt vk []).run P w = .ok none w := by simp [Instr.findKey, run_underlying hf1.und, Instr.findNow]
    cases ok with
    | false => exact ⟨z2, by simp [Instr.lookup, run_underlying hu, hck, hfk, run_zero' hf2], zero_rep hf2 c⟩
    | true => exact ⟨.tuple #[z2, .bool false], by simp [Instr.lookup, run_underlying hu, hck, hfk, run_zero' hf2], .tup _ _ (.vcons _ _ _ _ (zero_rep hf2 c) (.vcons _ _ _ _ (.bool _) .vnil))⟩
  | map id b hb =>
    simp only at h
    split at h
    · rename_i es hes
      obtain ⟨ents, clock, g1, g2⟩ := hI.obj id _ b hes hb
      have fs := find_sound hpk hkk 0 g2 h
      cases r with
      | none =>
        have hfk : (Instr.findKey kt vk ents.toList).run P w = .ok none w := by simp [Instr.findKey, run_underlying hf1.und, fs.1]
        cases ok with
        | false => exact ⟨z2, by simp [Instr.lookup, run_underlying hu, run_getMap g1, hck, hfk, run_zero' hf2], zero_rep hf2 c⟩
        | true => exact ⟨.tuple #[z2, .bool false], by simp [Instr.lookup, run_underlying hu, run_getMap g1, hck, hfk, run_zero' hf2], .tup _ _ (.vcons _ _ _ _ (zero_rep hf2 c) (.vcons _ _ _ _ (.bool _) .vnil))⟩
      | some v =>
        obtain ⟨j, u, k1, k2, _, _⟩ := fs
        have hfk : (Instr.findKey kt vk ents.toList).run P w = .ok (some (0 + j, u)) w := by simp only [Instr.findKey, Sem.run_bind, run_underlying hf1.und, Result.andThen_ok, k1, Sem.run_pure]
        cases ok with
        | false => exact ⟨u, by simp [Instr.lookup, run_underlying hu, run_getMap g1, hck, hfk], k2⟩
        | true => exact ⟨.tuple #[u, .bool true], by simp [Instr.lookup, run_underlying hu, run_getMap g1, hck, hfk], .tup _ _ (.vcons _ _ _ _ k2 (.vcons _ _ _ _ (.bool _) .vnil))⟩
    · cases h
  | _ => cases h

theorem mapUpdate_sound (hT : TOK P T) (hI : Inv c w s) {t kt et : TypeId} {ti tk : TI} (ht : T t = some ti) (hk : ti.k = .map kt et) (htk : T kt = some tk) {kd : Nat} (hp : plainKey tk = some kd)
    {id b : Nat} (hb : c.ι id = some b) {es : List (AV × AV)} (hes : aget s.objs id = some (.map es)) {k x : AV} {vk vx : Value} (hkk : VR c k vk) (hx : VR c x vx) {r : Option AV} (h : mfind kd k es = some r) (e : Nat) :
    ∃ w', (Instr.mapUpdate t (.map (some b)) vk vx).run P w = .ok () w' ∧ Inv c w' { n := s.n, objs := aset s.objs id (.map (mput kd k x es)), lo := e } := by
  obtain ⟨i, d, z, hf⟩ := tfacts hT ht
  obtain ⟨i1, d1, z1, hf1⟩ := tfacts hT htk
  have hd := tk_map (hf.k.symm.trans hk)
  have hu := hf.und
  rw [hd] at hu
  have hpk := plainKey_desc hf1 hp
  have hck := run_checkKey hf1.und (hpk.imp (fun ⟨k, e, _⟩ => ⟨k, e⟩) (fun e => e.1))
  obtain ⟨ents, clock, g1, g2⟩ := hI.obj id _ b hes hb
  have hlt : b < w.heap.size := (hI.ids id b hb).2.2
  have turn : ∀ o : Obj, OObj c { w with heap := w.heap.setIfInBounds b o } b (.map (mput kd k x es)) → Inv c { w with heap := w.heap.setIfInBounds b o } { n := s.n, objs := aset s.objs id (.map (mput kd k x es)), lo := e } := by
    intro o ho
    exact hI.turn (w' := { w with heap := w.heap.setIfInBounds b o }) hes rfl hb (by simp) (fun k' hk' => by simp [Array.getElem?_setIfInBounds_ne (Ne.symm hk')]) rfl rfl ho e
  have fs := find_sound hpk hkk 0 g2 h
  cases r with
  | none =>
    have hfk : (Instr.findKey kt vk ents.toList).run P w = .ok none w := by simp [Instr.findKey, run_underlying hf1.und, fs.1]
    refine ⟨_, by simp only [Instr.mapUpdate, Sem.run_bind, run_underlying hu, Result.andThen_ok, run_getMap g1, hck, hfk, run_setMap g1]; rfl, turn _ ?_⟩
    refine ⟨_, _, by simp [hlt]; exact ⟨rfl, rfl⟩, ?_⟩
    rw [fs.2 x, Array.toList_push]
    exact g2.append hkk hx
  | some v =>
    obtain ⟨j, u, k1, k2, ⟨e', k3, k4⟩, k5⟩ := fs
    have hfk : (Instr.findKey kt vk ents.toList).run P w = .ok (some (j, u)) w := by simp only [Instr.findKey, Sem.run_bind, run_underlying hf1.und, Result.andThen_ok, k1, Sem.run_pure, Nat.zero_add]
    have hst : (Instr.keyThatStays (((ents[j]?).map (·.key)).getD vk) vk).run P w = .ok vk w := by
      have he : ents[j]? = some e' := by simpa using k3
      simp [Instr.keyThatStays, he, k4]
    refine ⟨_, by simp only [Instr.mapUpdate, Sem.run_bind, run_underlying hu, Result.andThen_ok, run_getMap g1, hck, hfk, hst, run_setMap g1]; rfl, turn _ ?_⟩
    refine ⟨_, _, by simp [hlt]; exact ⟨rfl, rfl⟩, ?_⟩
    rw [Array.toList_modify]
    exact k5 x vx hx
end
end Go.Sy
