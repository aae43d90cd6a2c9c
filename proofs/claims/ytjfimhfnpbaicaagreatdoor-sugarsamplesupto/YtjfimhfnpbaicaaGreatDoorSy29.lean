/- Lemmas: rules for a slice that is written in place: it is appended to as an object; no condition. -/
import Derived.Test.YtjfimhfnpbaicaaGreatDoorSy28
namespace Go.Sy
set_option linter.unusedSimpArgs false
set_option linter.unusedVariables false
section
variable {P : Program} {T : Nat → Option TI} {m : Nat} {ops : Array Oper} {Q : QT} {t : Sl} {s : St}
/-- one operation whose effect is shown apart -/
theorem WL_raw {o : Oper} {l : List Oper} (hg : o.guard = none)
    (h : ∀ (c : Ctx) (w : World) (a : Act) (ds : List Deferred), Inv c w s → ARep ds c m (look t) a → ∃ v s', OpOK P c s' v ((execOp a.eval o).run P w) ∧ WL P m ops Q l (putF o.dst v t) s') : WL P m ops Q (o :: l) t s := by
  intro n ho hf
  have h0 : ops[n]? = some o := by have := ho 0 (by simp); simpa using this
  have hd := hf o List.mem_cons_self
  rw [List.length_cons, List.range'_succ]
  intro ds c w a hI ha
  have hw : awanted ops (look t) o.guard = some true := by rw [hg]; rfl
  simp only [wpOps, h0, wanted_of ha hw, if_true]
  refine .inl ?_
  obtain ⟨r, s', ⟨v, w', c', h1, h2, h3, h4⟩, hl⟩ := h c w a ds hI ha
  have hl' := hl (n + 1) (fun j hj => by have := ho (j + 1) (by simpa using hj); rw [show n + 1 + j = n + (j + 1) by omega]; simpa using this) (fun o' ho' => hf o' (List.mem_cons_of_mem _ ho'))
  rw [look_putF] at hl'
  have hk : wpOps P ops (lift ds c m (Lq Q)) (List.range' (n + 1) l.length) (a.put o.dst v) w' := by
    have := hl' ds c' w' _ h3 ((ha.mono h2).put hd h4)
    exact wpOps_monoQ (fun e a w g => lift_le h2 g) _ _ _ this
  unfold Oper.wp
  rcases h1 with h1 | ⟨h1, rfl⟩
  · rw [h1]; exact hk
  · rw [h1]; exact hk
theorem WL_one (hT : TOK P T) {o : Oper} {l : List Oper} (hg : o.guard = none) {v : AV} {s' : St} (hop : aop T (opv (look t)) s o.op = some (v, s')) (h : WL P m ops Q l (putF o.dst v t) s') : WL P m ops Q (o :: l) t s :=
  WL_raw hg fun c w a ds hI ha => ⟨v, s', aop_sound hT hI (fun x => ha.eval x) o hop, h⟩
/-- a new row, with room -/
theorem Inv.row {c : Ctx} {w : World} (hI : Inv c w s) {cs : List AV} {us : List Value} (hu : VRs c cs us) (k : Nat) (zs : Array Value) (hz : zs.size = k) (e : TypeId) :
    ∃ c', c.le c' ∧ Inv c' (w.drew.alloc (.cells (us.toArray ++ zs) e)) (s.push (.cells (cs ++ List.replicate k AV.any))) ∧ c'.ι s.n = some w.heap.size := by
  have hp : c.pend s.n = false := by
    cases h : c.pend s.n with
    | false => rfl
    | true => exact absurd (hI.pnd _ h) (Nat.lt_irrefl _)
  have hn : c.ι s.n = none := by
    cases h : c.ι s.n with
    | none => rfl
    | some b => exact absurd (hI.ids _ _ h).1 (Nat.lt_irrefl _)
  have hany : ∀ l : List Value, VRs c (List.replicate l.length AV.any) l := by
    intro l
    induction l with
    | nil => exact .vnil
    | cons x l ih => exact .vcons _ _ _ _ (.any x) ih
  have hobj : VRs c (cs ++ List.replicate k AV.any) (us.toArray ++ zs).toList := by
    rw [Array.toList_append]
    refine VRs.append hu ?_
    have := hany zs.toList
    rw [Array.length_toList, hz] at this
    exact this
  have hb : OBel s.n (.cells (cs ++ List.replicate k AV.any)) := OObj.bel (x := .cells (cs ++ List.replicate k AV.any)) (w' := w.alloc (.cells (us.toArray ++ zs) e)) (b := w.heap.size) ⟨_, e, heap_alloc_new w _, hobj⟩ hI
  have k1 := hI.drew.push (.cells (cs ++ List.replicate k AV.any)) hb
  have k2 := k1.bindNew (i := s.n) (o := .cells (us.toArray ++ zs) e) (Nat.lt_succ_self _) hn (aget_cons_same _ _ _) hp (fun c' w' hle hw => ⟨_, e, hw, hobj.mono hle⟩)
  exact ⟨c.bind s.n w.heap.size, Ctx.le_bind hn hp, k2, by simp [Ctx.bind]⟩
def okA (te : TI) (n : Nat) (ys : List AV) : Bool := Nat.ble ((n + ys.length) * te.bytes) 140737488355328 && Nat.blt 0 te.size && ys.all (fun y => y.cells.all AV.one) && Nat.ble (n + ys.length) 9223372036854775807 && elSize te.size ys
/-- the first elements of a row -/
theorem oapp_nil (hT : TOK P T) {c : Ctx} {w : World} (hI : Inv c w s) {t ty e : TypeId} {ti te : TI} (ht : T t = some ti) (hk : ti.k = .slice e) (hte : T e = some te) {k : SK} {y : AV} {ys : List AV} {vx vy : Value}
    (hx : VR c (.sl .nil []) vx) (hy : VR c (.sl k (y :: ys)) vy) (hok : okA te 0 (y :: ys) = true) :
    ∃ cap, (y :: ys).length ≤ cap ∧ ∃ v w' c', (Builtin.append_ #[t, t] ty #[vx, vy]).run P w = .ok v w' ∧ c.le c' ∧
      Inv c' w' (s.push (.cells ((y :: ys).flatMap AV.cells ++ List.replicate ((cap - (y :: ys).length) * te.size) AV.any))) ∧ VR c' (.osl s.n (y :: ys).length cap) v := by
  obtain ⟨i, d, z, hf⟩ := tfacts hT ht
  obtain ⟨i', d', z', hf'⟩ := tfacts hT hte
  have hd := tk_slice (hf.k.symm.trans hk)
  have hu : P.underlying t = some (.slice e) := hd ▸ hf.und
  have hy' := hf'.size
  have hby := hf'.bytes
  simp only [okA, Bool.and_eq_true, Nat.zero_add] at hok
  obtain ⟨⟨⟨⟨b1, b2⟩, b3⟩, b4⟩, b6⟩ := hok
  have b1 := Nat.le_of_ble_eq_true b1
  have b4 := Nat.le_of_ble_eq_true b4
  obtain ⟨yb, yo, ycap, rfl, yc1, _, _, yflat, yus, yrep, ylen, yf⟩ := sl_cells hI hy b6
  have hnews : ∀ (u : World), u.heap = w.heap → ∀ j v, yus[j]? = some v → u.cell? ((⟨yb, yo, none⟩ : Addr).add j) = some v := fun u hu' j v hj => by
    rw [addr_add]
    have := hI.fro _ _ _ (yf j v hj)
    simpa [World.cell?, hu'] using this
  cases hx with
  | sl _ _ b o cap sz h1 h2 h3 h4 h5 => exact absurd rfl h1
  | sle _ _ _ hkk => rcases hkk with e | e | ⟨e, _⟩ <;> cases e
  | slnil _ hkk =>
    have hrun := run_append_nil (P := P) w t ty e i' z' hu hf'.info hf'.zero ⟨yb, yo, none⟩ (y :: ys).length ycap yus (by rw [hy']; exact ylen) (hnews w rfl) (by simp) (by simp at b4 ⊢; omega) (by rw [hby]; simp at b1 ⊢; omega)
    obtain ⟨c', g1, g2, g3⟩ := hI.row yrep ((grownCap w (y :: ys).length 0 e - (y :: ys).length) * te.size) (Builtin.zeroCells z'.cells (grownCap w (y :: ys).length 0 e - (y :: ys).length)) (by rw [size_zeroCells, hf'.zsize]) e
    exact ⟨_, grownCap_ge w (y :: ys).length 0 e, _, _, c', hrun, g1, g2, .osl _ _ _ _ g3 (grownCap_ge w (y :: ys).length 0 e)⟩
theorem oapp (hT : TOK P T) {c : Ctx} {w : World} (hI : Inv c w s) {t ty e : TypeId} {ti te : TI} (ht : T t = some ti) (hk : ti.k = .slice e) (hte : T e = some te) {k : SK} {y : AV} {ys : List AV} {vx vy : Value} {id n cap : Nat} {cs : List AV}
    (hx : VR c (.osl id n cap) vx) (ho : aget s.objs id = some (.cells (cs ++ List.replicate ((cap - n) * te.size) AV.any))) (hcs : cs.length = n * te.size) (hy : VR c (.sl k (y :: ys)) vy) (hok : okA te n (y :: ys) = true) (lo : Nat) :
    (n + (y :: ys).length ≤ cap ∧ ∃ v w', (Builtin.append_ #[t, t] ty #[vx, vy]).run P w = .ok v w' ∧
      Inv c w' { n := s.n, objs := aset s.objs id (.cells (cs ++ (y :: ys).flatMap AV.cells ++ List.replicate ((cap - (n + (y :: ys).length)) * te.size) AV.any)), lo := lo } ∧ VR c (.osl id (n + (y :: ys).length) cap) v) ∨
    (cap < n + (y :: ys).length ∧ ∃ cap', n + (y :: ys).length ≤ cap' ∧ ∃ v w' c', (Builtin.append_ #[t, t] ty #[vx, vy]).run P w = .ok v w' ∧ c.le c' ∧
      Inv c' w' (s.push (.cells (cs ++ (y :: ys).flatMap AV.cells ++ List.replicate ((cap' - (n + (y :: ys).length)) * te.size) AV.any))) ∧ VR c' (.osl s.n (n + (y :: ys).length) cap') v) := by
  obtain ⟨i, d, z, hf⟩ := tfacts hT ht
  obtain ⟨i', d', z', hf'⟩ := tfacts hT hte
  have hd := tk_slice (hf.k.symm.trans hk)
  have hu : P.underlying t = some (.slice e) := hd ▸ hf.und
  have hy' := hf'.size
  have hby := hf'.bytes
  simp only [okA, Bool.and_eq_true] at hok
  obtain ⟨⟨⟨⟨b1, b2⟩, b3⟩, b4⟩, b6⟩ := hok
  have b1 := Nat.le_of_ble_eq_true b1
  have b4 := Nat.le_of_ble_eq_true b4
  obtain ⟨yb, yo, ycap, rfl, yc1, _, _, yflat, yus, yrep, ylen, yf⟩ := sl_cells hI hy b6
  have hnews : ∀ (u : World), u.heap = w.heap → ∀ j v, yus[j]? = some v → u.cell? ((⟨yb, yo, none⟩ : Addr).add j) = some v := fun u hu' j v hj => by
    rw [addr_add]
    have := hI.fro _ _ _ (yf j v hj)
    simpa [World.cell?, hu'] using this
  have hone : ∀ u ∈ yus, u.oneCell' = true := ones_rep yrep fun x hx' => by
    obtain ⟨q, hq1, hq2⟩ := List.mem_flatMap.1 hx'
    exact List.all_eq_true.1 (List.all_eq_true.1 b3 q hq1) x hq2
  cases hx with
  | osl _ _ _ b hb hcap =>
    obtain ⟨cur, el, hw, hrep⟩ := hI.obj id _ b ho hb
    have hlen := VRs.length hrep
    simp only [List.length_append, List.length_replicate, Array.length_toList] at hlen
    have hcapsz : cap * te.size = n * te.size + (cap - n) * te.size := by rw [← Nat.add_mul]; congr 1; omega
    have hcur : cur.size = cap * te.size := by omega
    have hfst : VRs c cs (cur.toList.take (n * te.size)) := by
      have := VRs.take (n * te.size) hrep
      rwa [List.take_left' hcs] at this
    by_cases hroom : n + (y :: ys).length ≤ cap
    · refine .inl ⟨hroom, ?_⟩
      have hmul : (n + (y :: ys).length) * te.size ≤ cap * te.size := Nat.mul_le_mul_right _ hroom
      have hmul2 : (n + (y :: ys).length) * te.size = n * te.size + (y :: ys).length * te.size := Nat.add_mul _ _ _
      have hrun := append_room (P := P) w (ty := ty) hu hf'.info b n cap cur el hw ⟨yb, yo, none⟩ (y :: ys).length ycap yus (by rw [hy']; exact ylen) (hnews w rfl) hone hroom (by rw [hy']; omega)
      rw [hy'] at hrun
      refine ⟨_, _, hrun, ?_, .osl _ _ _ b hb hroom⟩
      refine hI.turn ho rfl hb (by simp) (fun k hk => setRow_other w b k _ hk) rfl rfl ?_ lo
      refine ⟨_, el, setRow_heap w b cur _ el _ hw, ?_⟩
      show VRs c _ (List.take (n * te.size) cur.toList ++ yus ++ List.drop (n * te.size + yus.length) cur.toList)
      refine VRs.append (VRs.append hfst yrep) ?_
      have := VRs.drop (n * te.size + yus.length) hrep
      have e1 : (cs ++ List.replicate ((cap - n) * te.size) AV.any).drop (n * te.size + yus.length) = List.replicate ((cap - (n + (y :: ys).length)) * te.size) AV.any := by
        rw [← hcs, ← List.drop_drop, List.drop_left, List.drop_replicate, ylen]
        congr 1
        rw [← Nat.sub_mul]; congr 1; omega
      rw [e1] at this
      exact this
    · refine .inr ⟨by omega, ?_⟩
      have holds : ∀ j v, (cur.toList.take (n * te.size))[j]? = some v → w.cell? ((⟨b, 0, none⟩ : Addr).add j) = some v := fun j v hj => by
        rw [addr_add]
        have h2 := List.getElem?_take (l := cur.toList) (i := n * te.size) (j := j)
        rw [hj] at h2
        have hlt : j < n * te.size := by
          rcases Nat.lt_or_ge j (n * te.size) with h | h
          · exact h
          · rw [if_neg (by omega)] at h2; cases h2
        rw [if_pos hlt] at h2
        simp only [World.cell?, hw, Nat.zero_add]
        simpa using h2.symm
      have holen : (cur.toList.take (n * te.size)).length = n * te.size := by
        have : n * te.size ≤ cap * te.size := Nat.mul_le_mul_right _ hcap
        simp only [List.length_take, Array.length_toList]; omega
      have hrun := run_append_grow (P := P) w t ty e i' z' hu hf'.info hf'.zero ⟨b, 0, none⟩ n cap (cur.toList.take (n * te.size)) (by rw [hy']; exact holen) holds ⟨yb, yo, none⟩ (y :: ys).length ycap yus (by rw [hy']; exact ylen) (hnews w rfl) (by omega) (by omega)
        (growslice_fits (by omega) (by rw [hby]; exact b1))
      have hge := grownCap_ge w (n + (y :: ys).length) cap e
      obtain ⟨c', g1, g2, g3⟩ := hI.row (VRs.append hfst yrep) ((grownCap w (n + (y :: ys).length) cap e - (n + (y :: ys).length)) * te.size) (Builtin.zeroCells z'.cells (grownCap w (n + (y :: ys).length) cap e - (n + (y :: ys).length))) (by rw [size_zeroCells, hf'.zsize]) e
      refine ⟨_, hge, _, _, c', hrun, g1, ?_, .osl _ _ _ _ g3 hge⟩
      rw [show (List.take (n * te.size) cur.toList ++ yus).toArray = (List.take (n * te.size) cur.toList).toArray ++ yus.toArray by simp] at g2
      exact g2
end
theorem Inv.kill0 {c : Ctx} {w : World} {s : St} (hI : Inv c w s) {i : Nat} {x0 : AObj} (ho : aget s.objs i = some x0) : Inv c w (s.put i .dead) := by
  have hni : ∀ j x, aget (aset s.objs i .dead) j = some x → (j = i ∧ x = .dead) ∨ (j ≠ i ∧ aget s.objs j = some x) := by
    intro j x hj
    by_cases e : i = j
    · subst e; rw [aget_aset_same _ s.objs _ ho] at hj; cases hj; exact .inl ⟨rfl, rfl⟩
    · rw [aget_aset_ne e] at hj; exact .inr ⟨fun e' => e e'.symm, hj⟩
  refine ⟨hI.pnd, fun j x hj => ?_, hI.base_le, hI.old, hI.os, hI.out, hI.fro, hI.ids, fun j x b hj hv hi => ?_, hI.inj, fun j x b hj hi => ?_, hI.tks, fun t1 t2 b sz cap sz' cap' len len' h1 h2 hl hl' => ?_, fun t1 len1 b sz cap hl h1 => ?_⟩
  · rcases hni j x hj with ⟨rfl, rfl⟩ | ⟨_, hx⟩
    · exact ⟨(hI.bel _ _ ho).1, trivial⟩
    · exact hI.bel j x hx
  · rcases hni j x hj with ⟨rfl, rfl⟩ | ⟨_, hx⟩
    · cases hv
    · exact hI.free j x b hx hv hi
  · rcases hni j x hj with ⟨rfl, rfl⟩ | ⟨_, hx⟩
    · trivial
    · exact hI.obj j x b hx hi
  · rcases hni _ _ hl with ⟨_, e⟩ | ⟨_, hl⟩
    · cases e
    · rcases hni _ _ hl' with ⟨_, e⟩ | ⟨_, hl'⟩
      · cases e
      · exact hI.two t1 t2 b sz cap sz' cap' len len' h1 h2 hl hl'
  · rcases hni _ _ hl with ⟨_, e⟩ | ⟨_, hl⟩
    · cases e
    · exact hI.tok t1 len1 b sz cap hl h1

def fzs1 (i : Nat) (xs : List AV) : AV → AV
  | .osl j k cap => cond (Nat.beq i j && Nat.beq k xs.length) (.sl .fro xs) (.osl j k cap)
  | x => x
def fzs (i : Nat) (xs : List AV) : AV → AV
  | .agg l => .agg (l.map (fzs1 i xs))
  | x => fzs1 i xs x
section
variable {c c' : Ctx} {i : Nat} {xs : List AV} {sz : Nat}
theorem fzs1_rep (hle : c.le c') (hp : ∀ b, c.ι i = some b → Rep c' (.els sz xs b 0)) : ∀ (x : AV) (v : Value), VR c x v → VR c' (fzs1 i xs x) v
  | .osl j k cap, v, h => by
    rw [fzs1]
    cases e : Nat.beq i j && Nat.beq k xs.length with
    | false => exact h.mono hle
    | true =>
      simp only [Bool.and_eq_true] at e
      have e1 := Nat.eq_of_beq_eq_true e.1
      have e2 := Nat.eq_of_beq_eq_true e.2
      subst e1 e2
      cases h with
      | osl _ _ _ b hb hcap => exact .sl .fro xs b 0 cap sz (by simp) (hp b hb) hcap ⟨by simp, by simp⟩ (by simp)
  | .bool _, v, h | .int _ _, v, h | .str _, v, h | .nilptr, v, h | .ptr _ _, v, h | .fp _, v, h | .sl _ _, v, h | .nilmap, v, h | .map _, v, h | .fn _ _ _, v, h | .nilfn, v, h | .ifc _ _, v, h | .nilifc, v, h | .rsv _ _, v, h | .agg _, v, h | .tup _, v, h | .any, v, h => h.mono hle
theorem fzs_rep (hle : c.le c') (hp : ∀ b, c.ι i = some b → Rep c' (.els sz xs b 0)) (x : AV) (v : Value) (h : VR c x v) : VR c' (fzs i xs x) v := by
  cases x with
  | agg l =>
    cases h with
    | agg _ vs h1 =>
      refine .agg _ _ ?_
      generalize vs.toList = us at h1
      clear vs
      induction l generalizing us with
      | nil => cases h1; exact .vnil
      | cons y l ih => cases h1 with | vcons _ _ v us h1 h2 => exact .vcons _ _ _ _ (fzs1_rep hle hp y v h1) (ih us h2)
  | _ => exact fzs1_rep hle hp _ v h
end
/-- a row becomes firm: what was a slice of it is a slice of firm elements -/
theorem WL_freeze {P : Program} {m : Nat} {ops : Array Oper} {Q : QT} {t : Sl} {s : St} {l : List Oper} (i : Nat) (xs rest : List AV) (sz : Nat) (ho : aget s.objs i = some (.cells (xs.flatMap AV.cells ++ rest))) (hfl : (xs.flatMap AV.cells ++ rest).all AV.flat1 = true)
    (hel : ∀ x ∈ xs, x.cells.length = sz ∧ x.flat = true) (h : WL P m ops Q l (t.map fun p => (p.1, fzs i xs p.2)) (s.put i .dead)) : WL P m ops Q l t s := by
  intro n ho' hf ds c w a hI ha
  have key : ∃ c', c.le c' ∧ Inv c' w (s.put i .dead) ∧ ∀ b, c.ι i = some b → Rep c' (.els sz xs b 0) := by
    cases hi : c.ι i with
    | none => exact ⟨c, Ctx.le.refl c, hI.kill0 ho, fun b hb => by cases hb⟩
    | some b =>
      obtain ⟨c', k1, k2, k3⟩ := hI.freeze ho hfl hi
      refine ⟨c', k1, k2, fun b' hb => ?_⟩
      cases hb
      cases k3 0 with
      | fp _ _ _ _ h2 =>
        have h3 := cells_take (xs.flatMap AV.cells).length h2
        have h4 : List.take (xs.flatMap AV.cells).length (AV.agg (List.drop 0 (xs.flatMap AV.cells ++ rest))).cells = xs.flatMap AV.cells := by
          show List.take _ (xs.flatMap AV.cells ++ rest) = _
          exact List.take_left' rfl
        rw [h4] at h3
        obtain ⟨us, u1, u2⟩ := cellsR h3
        exact els_mk hel u1 u2
  obtain ⟨c', k1, k2, k3⟩ := key
  have := h n ho' hf ds c' w a k2 ⟨ha.defers, ha.size, fun j => by
    rw [look_map (by rfl)]
    exact fzs_rep k1 k3 _ _ (ha.get j)⟩
  exact wpOps_monoQ (fun e a w g => lift_le k1 g) _ _ _ this
section
variable {P : Program} {T : Nat → Option TI} {m : Nat} {ops : Array Oper} {Q : QT} {t : Sl} {s : St}
theorem run_bapp {P : Program} {o : Oper} {ty : TypeId} {ev : Operand → Value} {x y : Operand} {w : World} (ho : o.op = .call { callee := .builtin .append, args := #[x, y], argTypes := #[ty, ty] }) :
    (execOp ev o).run P w = (do pure (.value (← Builtin.append_ #[ty, ty] o.type #[ev x, ev y])) : Sem Next).run P w := by
  obtain ⟨dst, op, ty', pos, after, guard⟩ := o
  cases ho
  simp only [execOp, resolve, Sem.run_bind, Sem.run_pure, Result.andThen_ok, invoke]
  have e1 : (#[x, y] : Array Operand).map ev = #[ev x, ev y] := by simp
  rw [e1]
  rw [show ∀ cs : Array Bool, builtin .append #[ty, ty] ty' cs #[ev x, ev y] = (do pure (.value (← Builtin.append_ #[ty, ty] ty' #[ev x, ev y])) : Sem Next) from fun _ => rfl]
  simp only [Sem.run_bind, Sem.run_pure]
theorem WL_append0 (hT : TOK P T) {o : Oper} {l : List Oper} {x y : Operand} {ty e : TypeId} {ti te : TI} {k : SK} {b : AV} {bs : List AV} (ho : o.op = .call { callee := .builtin .append, args := #[x, y], argTypes := #[ty, ty] }) (hg : o.guard = none)
    (ht : T ty = some ti) (hk : ti.k = .slice e) (hte : T e = some te) (hx : opv (look t) x = .sl .nil []) (hy : opv (look t) y = .sl k (b :: bs)) (hok : okA te 0 (b :: bs) = true)
    (h : ∀ cap, (b :: bs).length ≤ cap → WL P m ops Q l (putF o.dst (.osl s.n (b :: bs).length cap) t) (s.push (.cells ((b :: bs).flatMap AV.cells ++ List.replicate ((cap - (b :: bs).length) * te.size) AV.any)))) : WL P m ops Q (o :: l) t s := by
  refine WL_raw hg fun c w a ds hI ha => ?_
  have h1 := ha.eval x
  have h2 := ha.eval y
  rw [hx] at h1
  rw [hy] at h2
  obtain ⟨cap, hc, v, w', c', k1, k2, k3, k4⟩ := oapp_nil (ty := o.type) hT hI ht hk hte h1 h2 hok
  refine ⟨_, _, ?_, h cap hc⟩
  rw [run_bapp ho]
  exact OpOK.of ⟨v, w', c', k1, k2, k3, k4⟩
theorem WL_append1 (hT : TOK P T) {o : Oper} {l : List Oper} {x y : Operand} {ty e : TypeId} {ti te : TI} {k : SK} {b : AV} {bs : List AV} {id n cap : Nat} {cs : List AV} (ho : o.op = .call { callee := .builtin .append, args := #[x, y], argTypes := #[ty, ty] }) (hg : o.guard = none)
    (ht : T ty = some ti) (hk : ti.k = .slice e) (hte : T e = some te) (hx : opv (look t) x = .osl id n cap) (hobj : aget s.objs id = some (.cells (cs ++ List.replicate ((cap - n) * te.size) AV.any))) (hcs : cs.length = n * te.size) (hy : opv (look t) y = .sl k (b :: bs)) (hok : okA te n (b :: bs) = true)
    (h1 : n + (b :: bs).length ≤ cap → WL P m ops Q l (putF o.dst (.osl id (n + (b :: bs).length) cap) t) (s.put id (.cells (cs ++ (b :: bs).flatMap AV.cells ++ List.replicate ((cap - (n + (b :: bs).length)) * te.size) AV.any))))
    (h2 : ∀ cap', n + (b :: bs).length ≤ cap' → WL P m ops Q l (putF o.dst (.osl s.n (n + (b :: bs).length) cap') t) (s.push (.cells (cs ++ (b :: bs).flatMap AV.cells ++ List.replicate ((cap' - (n + (b :: bs).length)) * te.size) AV.any)))) : WL P m ops Q (o :: l) t s := by
  refine WL_raw hg fun c w a ds hI ha => ?_
  have g1 := ha.eval x
  have g2 := ha.eval y
  rw [hx] at g1
  rw [hy] at g2
  rcases oapp (ty := o.type) hT hI ht hk hte g1 hobj hcs g2 hok (least s.lo id) with ⟨q, v, w', k1, k2, k3⟩ | ⟨q, cap', hc, v, w', c', k1, k2, k3, k4⟩
  · refine ⟨_, _, ?_, h1 q⟩
    rw [run_bapp ho]
    exact OpOK.of ⟨v, w', c, k1, Ctx.le.refl c, k2, k3⟩
  · refine ⟨_, _, ?_, h2 cap' hc⟩
    rw [run_bapp ho]
    exact OpOK.of ⟨v, w', c', k1, k2, k3, k4⟩
/-- a loop of so many rounds: what is known before a round hangs on data -/
theorem Vr_fora {nb : Nat} {x : Code} {α : Type} (N : Nat) (I : Nat → α → Prop) (T : Nat → α → Sl) (S : Nat → α → St) (a0 : α) (h0 : I 0 a0)
    (hstep : ∀ i, i < N → ∀ a, I i a → ∀ n, (∀ a', I (i + 1) a' → Vr P nb m x Q n (T (i + 1) a') (S (i + 1) a')) → V P nb m x (Vthen (Vr P nb m x Q n) Q) (T i a) (S i a))
    (hend : ∀ a, I N a → ∀ n, V P nb m x (Vthen (Vr P nb m x Q n) Q) (T N a) (S N a)) : Vr P nb m x Q (N + 1) (T 0 a0) (S 0 a0) := by
  have key : ∀ k, k ≤ N → ∀ a, I (N - k) a → Vr P nb m x Q (k + 1) (T (N - k) a) (S (N - k) a) := by
    intro k
    induction k with
    | zero => intro _ a hI; exact hend a hI 0
    | succ k ih =>
      intro hk a hI
      refine hstep (N - (k + 1)) (by omega) a hI (k + 1) fun a' hI' => ?_
      have e : N - (k + 1) + 1 = N - k := by omega
      rw [e] at hI' ⊢
      exact ih (by omega) a' hI'
  have := key N (Nat.le_refl N) a0 (by rw [Nat.sub_self]; exact h0)
  rw [Nat.sub_self] at this
  exact this
end
end Go.Sy
