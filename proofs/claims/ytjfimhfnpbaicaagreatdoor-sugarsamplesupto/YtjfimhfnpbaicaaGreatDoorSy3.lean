/- Lemmas: each operation on abstract values is what the machine's operation is; no condition. -/
import Derived.Test.YtjfimhfnpbaicaaGreatDoorSy2
import Derived.Laws.Sem
import Derived.Laws.Entries
import Derived.Laws.Strings
import Derived.ChangeKeysEq
namespace Go.Sy
set_option linter.unusedSimpArgs false
set_option linter.unusedVariables false

def tkOf : TypeDesc → TK
  | .bool => .bool | .int k => .int k | .string => .str | .slice e => .slice e
  | .struct fs => .struct (fs.toList.map fun f => (f.offset, f.type))
  | .array n e => .arr n e | .map k e => .map k e | .pointer e => .ptr e
  | .func .. => .func | .interface _ => .ifc | .tuple _ => .tup | _ => .oth
def vAgg (z : Value) : Bool := match z with | .agg _ => true | _ => false
def dAgg (d : TypeDesc) : Bool := match d with | .struct _ | .array _ _ => true | _ => false
def kindOf (P : Program) (t : TypeId) : Nat := match P.underlying t with | some (.int _) => 0 | some .string => 1 | some .bool => 2 | _ => 3
def eqOk (P : Program) (t : TypeId) : List Nat :=
  match P.underlying t with
  | some (.struct fs) => cond (!P.eqGuardType P.depth t && !P.stoodInHeld t && decide (fs.toList.map (·.offset) = List.range fs.size) && fs.toList.all (fun f => f.name != "_"))
      (fs.toList.map fun f => kindOf P f.type) []
  | _ => []
def tiOf (P : Program) (t : TypeId) : Option TI :=
  match P.info? t, P.underlying t with
  | some i, some d =>
    (match i.zero with
    | some z => cond (Nat.beq z.cells.size i.size && (vAgg z == dAgg d))
        (some ⟨tkOf d, i.size, i.bytes, avOf z, eqOk P t⟩) none
    | none => none)
  | _, _ => none
def TOK (P : Program) (T : Nat → Option TI) : Prop := ∀ t ti, T t = some ti → tiOf P t = some ti

structure TFacts (P : Program) (t : TypeId) (ti : TI) (i : TypeInfo) (d : TypeDesc) (z : Value) : Prop where
  info : P.info? t = some i
  und : P.underlying t = some d
  zero : i.zero = some z
  zsize : z.cells.size = ti.size
  size : i.size = ti.size
  bytes : i.bytes = ti.bytes
  k : ti.k = tkOf d
  z : ti.zero = avOf z
  eq : ti.eq = eqOk P t
  agg : ti.isAgg = dAgg d
theorem tfacts {P : Program} {T : Nat → Option TI} (hT : TOK P T) {t : TypeId} {ti : TI} (h : T t = some ti) : ∃ i d z, TFacts P t ti i d z := by
  have h' := hT t ti h
  unfold tiOf at h'
  split at h'
  · rename_i i d hi hd
    split at h'
    · rename_i z hz
      cases hc : (Nat.beq z.cells.size i.size && (vAgg z == dAgg d)) with
      | false => rw [hc] at h'; cases h'
      | true =>
        rw [hc] at h'
        cases h'
        simp only [Bool.and_eq_true] at hc
        exact ⟨i, d, z, hi, hd, hz, Nat.eq_of_beq_eq_true hc.1, rfl, rfl, rfl, rfl, rfl, by cases d <;> rfl⟩
    · cases h'
  · cases h'

theorem av1_rep (c : Ctx) (v : Value) : VR c (av1 v) v := by
  unfold av1
  split
  · exact .bool _
  · exact .int _ _
  · exact .str _
  · exact .nilptr
  · exact .slnil _ (.inl rfl)
  · exact .nilmap
  · split
    · rename_i f a b h
      simp only [Bool.and_eq_true, Array.isEmpty_iff] at h
      obtain ⟨rfl, rfl⟩ := h
      exact .fn f [] [] #[] #[] .vnil .vnil
    · exact .any _
  · exact .nilfn
  · exact .nilifc
  · exact .any _
theorem av1s_rep (c : Ctx) : ∀ vs : List Value, VRs c (vs.map av1) vs
  | [] => .vnil
  | v :: vs => .vcons _ _ _ _ (av1_rep c v) (av1s_rep c vs)
theorem avOf_rep (c : Ctx) (v : Value) : VR c (avOf v) v := by
  unfold avOf
  split
  · exact .agg _ _ (av1s_rep c _)
  · exact .tup _ _ (av1s_rep c _)
  · exact .ifc _ _ _ (av1_rep c _)
  · exact av1_rep c _
theorem av1_cells (v : Value) : (av1 v).cells = [av1 v] := by
  unfold av1
  split <;> first | rfl | (split <;> rfl)
theorem avOf_cells (c : Ctx) (v : Value) : VRs c (avOf v).cells v.cells.toList := by
  cases v with
  | agg cs => exact av1s_rep c _
  | tuple cs => exact .vcons _ _ _ _ (avOf_rep c _) .vnil
  | iface t v => exact .vcons _ _ _ _ (avOf_rep c _) .vnil
  | _ => simp only [avOf, av1_cells, Value.cells]; exact .vcons _ _ _ _ (av1_rep c _) .vnil

theorem addr_add (b o n : Nat) : (⟨b, o, none⟩ : Addr).add n = ⟨b, o + n, none⟩ := by
  unfold Addr.add; split <;> simp_all

section
variable {P : Program} {T : Nat → Option TI} {c : Ctx} {w : World} {s : St}
theorem run_isAgg' {t : TypeId} {ti : TI} {i : TypeInfo} {d : TypeDesc} {z : Value} (h : TFacts P t ti i d z) (w : World) : (isAgg t).run P w = .ok ti.isAgg w := by
  rw [h.agg]
  unfold isAgg
  simp only [Sem.run_bind, run_underlying h.und, Result.andThen_ok]
  cases d <;> rfl
theorem run_sizeOf' {t : TypeId} {ti : TI} {i : TypeInfo} {d : TypeDesc} {z : Value} (h : TFacts P t ti i d z) (w : World) : (sizeOf t).run P w = .ok ti.size w := by
  simp [sizeOf, typeInfo, h.info, h.size]
theorem run_zero' {t : TypeId} {ti : TI} {i : TypeInfo} {d : TypeDesc} {z : Value} (h : TFacts P t ti i d z) (w : World) : (zeroValue t).run P w = .ok z w := by
  simp [zeroValue, typeInfo, h.info, h.zero]
theorem zero_cells {t : TypeId} {ti : TI} {i : TypeInfo} {d : TypeDesc} {z : Value} (h : TFacts P t ti i d z) (c : Ctx) : VRs c ti.zero.cells z.cells.toList := by
  rw [h.z]; exact avOf_cells c z
theorem zero_rep {t : TypeId} {ti : TI} {i : TypeInfo} {d : TypeDesc} {z : Value} (h : TFacts P t ti i d z) (c : Ctx) : VR c ti.zero z := by
  rw [h.z]; exact avOf_rep c z

/-- cells that lie in memory -/
def Lies (c : Ctx) (w : World) (l : List AV) (b o : Nat) : Prop := ∃ vs : List Value, VRs c l vs ∧ ∀ j v, vs[j]? = some v → w.cell? ⟨b, o + j, none⟩ = some v
theorem Lies.of_cells (h : Inv c w s) {l : List AV} {b o : Nat} (g : Rep c (.cells l b o)) : Lies c w l b o := by
  obtain ⟨vs, h1, h2⟩ := cellsR g
  exact ⟨vs, h1, fun j v hj => h.fro _ _ _ (h2 j v hj)⟩
theorem Lies.drop {l : List AV} {b o : Nat} (h : Lies c w l b o) (n : Nat) : Lies c w (l.drop n) b (o + n) := by
  obtain ⟨vs, h1, h2⟩ := h
  refine ⟨vs.drop n, VRs.drop n h1, fun j v hj => ?_⟩
  rw [List.getElem?_drop] at hj
  rw [Nat.add_assoc]; exact h2 _ v hj
theorem Lies.of_obj (h : Inv c w s) {i b : Nat} {cs : List AV} (hx : aget s.objs i = some (.cells cs)) (hi : c.ι i = some b) : Lies c w cs b 0 := by
  obtain ⟨vs, el, h1, h2⟩ := h.obj i _ b hx hi
  exact ⟨vs.toList, h2, fun j v hj => by simp only [World.cell?, h1]; simpa using hj⟩

theorem load_lies {t : TypeId} {ti : TI} (hT : TOK P T) (ht : T t = some ti) {l : List AV} {b o : Nat} (h : Lies c w l b o) {r : AV}
    (hr : AV.pickCells ti.isAgg ti.size l = some r) : ∃ v, (loadVar t ⟨b, o, none⟩).run P w = .ok v w ∧ VR c r v := by
  obtain ⟨i, d, z, hf⟩ := tfacts hT ht
  obtain ⟨vs, h1, h2⟩ := h
  unfold AV.pickCells at hr
  cases ha : ti.isAgg with
  | true =>
    rw [ha] at hr
    simp only [cond_true] at hr
    cases hb : Nat.beq (l.take ti.size).length ti.size with
    | false => rw [hb] at hr; cases hr
    | true =>
      rw [hb] at hr; cases hr
      have hl := Nat.eq_of_beq_eq_true hb
      have hvl := VRs.length h1
      have g := VRs.take ti.size h1
      have e : ti.size = (vs.take ti.size).length := by simp at hl ⊢; omega
      have hload := run_loadCells_list (P := P) (w := w) ⟨b, o, none⟩ (vs.take ti.size) (fun j v hj => by
        rw [addr_add]
        refine h2 j v ?_
        rw [List.getElem?_take] at hj
        split at hj
        · exact hj
        · cases hj)
      rw [← e] at hload
      refine ⟨.agg (vs.take ti.size).toArray, ?_, .agg _ _ (by simpa using g)⟩
      simp only [loadVar, Sem.run_bind, run_isAgg' hf, Result.andThen_ok, ha, if_true, run_sizeOf' hf, hload, Sem.run_pure]
  | false =>
    rw [ha] at hr
    simp only [cond_false] at hr
    cases l with
    | nil => cases hr
    | cons x l =>
      cases hr
      cases h1 with
      | vcons _ _ v vs h3 h4 =>
        refine ⟨v, ?_, h3⟩
        have hc := h2 0 v rfl
        simp only [Nat.add_zero] at hc
        simp [loadVar, run_isAgg' hf, ha, hc]

theorem part_list {t : TypeId} {ti : TI} (hT : TOK P T) (ht : T t = some ti) {l : List AV} {vs : Array Value} (h : VRs c l vs.toList) {off : Nat} {r : AV}
    (hr : AV.pickCells ti.isAgg ti.size (l.drop off) = some r) (w : World) : ∃ v, (part t vs off).run P w = .ok v w ∧ VR c r v := by
  obtain ⟨i, d, z, hf⟩ := tfacts hT ht
  have h1 := VRs.drop off h
  unfold AV.pickCells at hr
  cases ha : ti.isAgg with
  | true =>
    rw [ha] at hr
    simp only [cond_true] at hr
    cases hb : Nat.beq ((l.drop off).take ti.size).length ti.size with
    | false => rw [hb] at hr; cases hr
    | true =>
      rw [hb] at hr; cases hr
      have g := VRs.take ti.size h1
      refine ⟨.agg (vs.extract off (off + ti.size)), ?_, .agg _ _ ?_⟩
      · simp only [part, Sem.run_bind, run_isAgg' hf, Result.andThen_ok, ha, if_true, run_sizeOf' hf, Sem.run_pure]
      · rw [Array.toList_extract, List.extract_eq_take_drop]
        simpa using g
  | false =>
    rw [ha] at hr
    simp only [cond_false] at hr
    cases hd : l.drop off with
    | nil => rw [hd] at hr; cases hr
    | cons x q =>
      rw [hd] at hr; cases hr
      rw [hd] at h1
      have hx : l[off]? = some r := by
        have := List.getElem?_drop (xs := l) (i := off) (j := 0); rw [hd] at this; simpa using this.symm
      obtain ⟨v, hv, hr⟩ := VRs.get h off r hx
      refine ⟨v, ?_, hr⟩
      have hv' : vs[off]? = some v := by simpa using hv
      simp [part, run_isAgg' hf, ha, hv']
end
end Go.Sy
