/- Lemmas: ids given anew, objects dropped, objects made firm; no condition. -/
import Derived.Test.YtjfimhfnpbaicaaGreatDoorSy25
namespace Go.Sy
set_option linter.unusedSimpArgs false
set_option linter.unusedVariables false
set_option linter.unusedSectionVars false

def gat : List (Nat × Nat) → Nat → Option Nat
  | [], _ => none
  | (a, b) :: r, i => cond (Nat.beq a i) (some b) (gat r i)
theorem gat_mem {i j : Nat} : ∀ {gl : List (Nat × Nat)}, gat gl i = some j → (i, j) ∈ gl
  | [], h => by cases h
  | (a, b) :: r, h => by
    simp only [gat] at h
    cases e : Nat.beq a i with
    | true =>
      rw [e, cond_true] at h
      have := Nat.eq_of_beq_eq_true e
      subst this
      cases h
      exact List.mem_cons_self ..
    | false => rw [e, cond_false] at h; exact List.mem_cons_of_mem _ (gat_mem h)
def nodupB : List Nat → Bool
  | [] => true
  | a :: r => !(r.any (Nat.beq a)) && nodupB r
def fixB (gl : List (Nat × Nat)) : Nat → Bool
  | 0 => true
  | n + 1 => (match gat gl n with | some j => Nat.beq j n | none => false) && fixB gl n
/-- new ids (first), old ids (second) -/
def gOK (gl : List (Nat × Nat)) (nb n' : Nat) : Bool := nodupB (gl.map (·.2)) && gl.all (fun p => Nat.blt p.1 n') && fixB gl nb
theorem fixB_of {gl : List (Nat × Nat)} : ∀ {nb : Nat}, fixB gl nb = true → ∀ i, i < nb → gat gl i = some i
  | 0, _, i, hi => by omega
  | n + 1, h, i, hi => by
    simp only [fixB, Bool.and_eq_true] at h
    by_cases e : i = n
    · subst e
      have h1 := h.1
      cases hg : gat gl i with
      | none => rw [hg] at h1; cases h1
      | some j => rw [hg] at h1; rw [Nat.eq_of_beq_eq_true h1]
    · exact fixB_of h.2 i (by omega)
theorem nodup_inj : ∀ {gl : List (Nat × Nat)}, nodupB (gl.map (·.2)) = true → ∀ {a b j : Nat}, gat gl a = some j → gat gl b = some j → a = b
  | [], _, a, b, j, h, _ => by cases h
  | (x, y) :: r, h, a, b, j, ha, hb => by
    simp only [List.map_cons, nodupB, Bool.and_eq_true, Bool.not_eq_true'] at h
    have hno : ∀ c, gat r c ≠ some y := fun c hc => by
      have hm := gat_mem hc
      have := List.any_eq_false.1 h.1 y (List.mem_map.2 ⟨_, hm, rfl⟩)
      simp [beq_of] at this
    simp only [gat] at ha hb
    cases ea : Nat.beq x a with
    | true =>
      have := Nat.eq_of_beq_eq_true ea
      subst this
      rw [ea, cond_true] at ha
      cases ha
      cases eb : Nat.beq x b with
      | true => exact Nat.eq_of_beq_eq_true eb
      | false => rw [eb, cond_false] at hb; exact absurd hb (hno b)
    | false =>
      rw [ea, cond_false] at ha
      cases eb : Nat.beq x b with
      | true => rw [eb, cond_true] at hb; cases hb; exact absurd ha (hno a)
      | false => rw [eb, cond_false] at hb; exact nodup_inj h.2 ha hb

def bkTok (xs : List AV) : Option Nat → Option AV
  | some j => some (.sl (.tok j) xs)
  | none => (match xs with | [] => some (.sl (.tok 0) []) | _ => none)
mutual
def bkV (gl : List (Nat × Nat)) : AV → Option AV
  | .ptr i o => (match gat gl i with | some j => some (.ptr j o) | none => none)
  | .map i => (match gat gl i with | some j => some (.map j) | none => none)
  | .sl (.tok i) xs => bkTok xs (gat gl i)
  | .rsv i sz => (match gat gl i with | some j => some (.rsv j sz) | none => none)
  | .osl i k cap => (match gat gl i with | some j => some (.osl j k cap) | none => none)
  | .fn f a b => (match bkL gl a, bkL gl b with | some a', some b' => some (.fn f a' b') | _, _ => none)
  | .ifc t v => (match bkV gl v with | some v' => some (.ifc t v') | none => none)
  | .agg l => (match bkL gl l with | some l' => some (.agg l') | none => none)
  | .tup l => (match bkL gl l with | some l' => some (.tup l') | none => none)
  | x => some x
def bkL (gl : List (Nat × Nat)) : List AV → Option (List AV)
  | [] => some []
  | x :: l => (match bkV gl x, bkL gl l with | some x', some l' => some (x' :: l') | _, _ => none)
end

def Ctx.bk (c : Ctx) (gl : List (Nat × Nat)) : Ctx := { c with ι := fun i => (gat gl i).bind c.ι, τ := fun i => (gat gl i).bind c.τ, pend := fun i => match gat gl i with | some j => c.pend j | none => false }

section
variable {c : Ctx} {gl : List (Nat × Nat)}
theorem bk_plain {x : AV} {v : Value} (h : VR c x v) (hb : Bel 0 x) : VR (c.bk gl) x v := Rep.noid (c := c) (c' := c.bk gl) (fun _ _ _ h => h) h hb
mutual
theorem bkV_rep : ∀ (x u : AV), bkV gl x = some u → ∀ v, VR c u v → VR (c.bk gl) x v
  | .ptr i o, u, h, v, hv => by
    rw [bkV] at h
    cases hg : gat gl i with
    | none => rw [hg] at h; cases h
    | some j =>
      rw [hg] at h; cases h
      cases hv with
      | ptr _ _ b hb => exact .ptr i o b (by simp only [Ctx.bk, hg, Option.bind_some]; exact hb)
  | .map i, u, h, v, hv => by
    rw [bkV] at h
    cases hg : gat gl i with
    | none => rw [hg] at h; cases h
    | some j =>
      rw [hg] at h; cases h
      cases hv with
      | map _ b hb => exact .map i b (by simp only [Ctx.bk, hg, Option.bind_some]; exact hb)
  | .osl i k cap, u, h, v, hv => by
    rw [bkV] at h
    cases hg : gat gl i with
    | none => rw [hg] at h; cases h
    | some j =>
      rw [hg] at h; cases h
      cases hv with
      | osl _ _ _ b hb h2 => exact .osl i k cap b (by simp only [Ctx.bk, hg, Option.bind_some]; exact hb) h2
  | .rsv i sz, u, h, v, hv => by
    rw [bkV] at h
    cases hg : gat gl i with
    | none => rw [hg] at h; cases h
    | some j =>
      rw [hg] at h; cases h
      cases hv with
      | rsv _ _ b cap hb => exact .rsv i sz b cap (by simp only [Ctx.bk, hg, Option.bind_some]; exact hb)
  | .sl k xs, u, h, v, hv => by
    cases k with
    | tok i =>
      rw [bkV] at h
      cases hg : gat gl i with
      | none =>
        rw [hg] at h
        unfold bkTok at h
        cases xs with
        | nil =>
          cases h
          cases hv with
          | slnil _ _ => exact .slnil _ (.inr (.inr ⟨i, rfl⟩))
          | sle _ _ _ hkk => rcases hkk with e | e | ⟨e, _⟩ <;> cases e
          | sl _ _ b o cap sz h1 h2 h3 h4 h5 => exact absurd rfl (h4.2 _ rfl)
        | cons x xs => cases h
      | some j =>
        rw [hg] at h
        simp only [bkTok, Option.some.injEq] at h
        subst h
        cases hv with
        | slnil _ _ => exact .slnil _ (.inr (.inr ⟨i, rfl⟩))
        | sle _ _ _ hkk => rcases hkk with e | e | ⟨e, _⟩ <;> cases e
        | sl _ _ b o cap sz h1 h2 h3 h4 h5 =>
          refine .sl _ xs b o cap sz (by simp) (Rep.noid (c := c) (c' := c.bk gl) (fun _ _ _ h => h) h2 trivial) h3 ⟨by simp, fun _ _ => h4.2 j rfl⟩ fun t e => ?_
          cases e
          refine ⟨(h5 j rfl).1, ?_⟩
          simp only [Ctx.bk, hg, Option.bind_some]
          exact (h5 j rfl).2
    | nil => rw [bkV] at h <;> first | (cases h; exact bk_plain hv (.sl _ xs fun t e => by cases e)) | (intros; simp at *)
    | fro => rw [bkV] at h <;> first | (cases h; exact bk_plain hv (.sl _ xs fun t e => by cases e)) | (intros; simp at *)
    | non => rw [bkV] at h <;> first | (cases h; exact bk_plain hv (.sl _ xs fun t e => by cases e)) | (intros; simp at *)
    | full => rw [bkV] at h <;> first | (cases h; exact bk_plain hv (.sl _ xs fun t e => by cases e)) | (intros; simp at *)
  | .fn f a b, u, h, v, hv => by
    rw [bkV] at h
    cases ha : bkL gl a with
    | none => rw [ha] at h; cases h
    | some a' =>
      cases hb : bkL gl b with
      | none => rw [ha, hb] at h; cases h
      | some b' =>
        rw [ha, hb] at h; cases h
        cases hv with
        | fn _ _ _ vfs vcs h1 h2 => exact .fn f a b vfs vcs (bkL_rep a a' ha _ h1) (bkL_rep b b' hb _ h2)
  | .ifc t x, u, h, v, hv => by
    rw [bkV] at h
    cases hx : bkV gl x with
    | none => rw [hx] at h; cases h
    | some x' =>
      rw [hx] at h; cases h
      cases hv with
      | ifc _ _ w hw => exact .ifc t x w (bkV_rep x x' hx w hw)
  | .agg l, u, h, v, hv => by
    rw [bkV] at h
    cases hl : bkL gl l with
    | none => rw [hl] at h; cases h
    | some l' =>
      rw [hl] at h; cases h
      cases hv with
      | agg _ vs hw => exact .agg l vs (bkL_rep l l' hl _ hw)
  | .tup l, u, h, v, hv => by
    rw [bkV] at h
    cases hl : bkL gl l with
    | none => rw [hl] at h; cases h
    | some l' =>
      rw [hl] at h; cases h
      cases hv with
      | tup _ vs hw => exact .tup l vs (bkL_rep l l' hl _ hw)
  | .bool b, u, h, v, hv => by simp only [bkV, Option.some.injEq] at h; subst h; exact bk_plain hv (.bool b)
  | .int k n, u, h, v, hv => by simp only [bkV, Option.some.injEq] at h; subst h; exact bk_plain hv (.int k n)
  | .str s, u, h, v, hv => by simp only [bkV, Option.some.injEq] at h; subst h; exact bk_plain hv (.str s)
  | .nilptr, u, h, v, hv => by simp only [bkV, Option.some.injEq] at h; subst h; exact bk_plain hv .nilptr
  | .fp x, u, h, v, hv => by simp only [bkV, Option.some.injEq] at h; subst h; exact bk_plain hv (.fp x)
  | .nilmap, u, h, v, hv => by simp only [bkV, Option.some.injEq] at h; subst h; exact bk_plain hv .nilmap
  | .nilfn, u, h, v, hv => by simp only [bkV, Option.some.injEq] at h; subst h; exact bk_plain hv .nilfn
  | .nilifc, u, h, v, hv => by simp only [bkV, Option.some.injEq] at h; subst h; exact bk_plain hv .nilifc
  | .any, u, h, v, hv => .any v
theorem bkL_rep : ∀ (l m : List AV), bkL gl l = some m → ∀ vs, VRs c m vs → VRs (c.bk gl) l vs
  | [], m, h, vs, hv => by simp only [bkL, Option.some.injEq] at h; subst h; cases hv; exact .vnil
  | x :: l, m, h, vs, hv => by
    rw [bkL] at h
    cases hx : bkV gl x with
    | none => rw [hx] at h; cases h
    | some x' =>
      cases hl : bkL gl l with
      | none => rw [hx, hl] at h; cases h
      | some l' =>
        rw [hx, hl] at h; cases h
        cases hv with
        | vcons _ _ v vs h1 h2 => exact .vcons _ _ _ _ (bkV_rep x x' hx v h1) (bkL_rep l l' hl vs h2)
end
end

def wkO (a : AV) : Option AV → Prop
  | some u => Wk a u
  | none => False
def slotsOK (gl : List (Nat × Nat)) (n : Nat) (t : Sl) : Sl → Prop
  | [] => True
  | (j, v) :: r => bel n v = true ∧ wkO (look t j) (bkV gl v) ∧ slotsOK gl n t r
def wksO (a : List AV) : Option (List AV) → Prop
  | some u => Wks a u
  | none => False
def entsO (gl : List (Nat × Nat)) : List (AV × AV) → List (AV × AV) → Prop
  | [], [] => True
  | (k, v) :: l, (k', v') :: m => wkO k (bkV gl k') ∧ wkO v (bkV gl v') ∧ entsO gl l m
  | _, _ => False
def objOK (gl : List (Nat × Nat)) (s : St) (i' : Nat) : AObj → Prop
  | .dead => True
  | .tok len => (match gat gl i' with | none => True | some i => aget s.objs i = some (.tok len))
  | .cells cs' => (match gat gl i' with | none => False | some i => (match aget s.objs i with | some (.cells cs) => wksO cs (bkL gl cs') | _ => False))
  | .map es' => (match gat gl i' with | none => False | some i => (match aget s.objs i with | some (.map es) => entsO gl es es' | _ => False))
def objsOK (gl : List (Nat × Nat)) (n : Nat) (s : St) : List (Nat × AObj) → Prop
  | [] => True
  | (i', x') :: r => Nat.blt i' n = true ∧ obel n x' = true ∧ objOK gl s i' x' ∧ objsOK gl n s r
theorem objsOK_of {gl : List (Nat × Nat)} {n : Nat} {s : St} : ∀ {l : List (Nat × AObj)}, objsOK gl n s l → ∀ q ∈ l, Nat.blt q.1 n = true ∧ obel n q.2 = true ∧ objOK gl s q.1 q.2
  | [], _, q, hq => by cases hq
  | (i, x) :: l, h, q, hq => by
    rcases List.mem_cons.1 hq with rfl | hq
    · exact ⟨h.1, h.2.1, h.2.2.1⟩
    · exact objsOK_of h.2.2.2 q hq
theorem entsO_rep {c : Ctx} {gl : List (Nat × Nat)} : ∀ {es es' : List (AV × AV)} {l : List MapEntry}, entsO gl es es' → Ents c es l → Ents (c.bk gl) es' l
  | [], [], _, _, h => by cases h; exact .nil
  | (k, v) :: es, (k', v') :: es', _, h, g => by
    cases g with
    | cons _ _ _ e l g1 g2 g3 =>
      obtain ⟨h1, h2, h3⟩ := h
      refine .cons _ _ _ _ _ ?_ ?_ (entsO_rep h3 g3)
      · cases hk : bkV gl k' with
        | none => rw [hk] at h1; exact h1.elim
        | some u => rw [hk] at h1; exact bkV_rep k' u hk _ (h1 c _ g1)
      · cases hk : bkV gl v' with
        | none => rw [hk] at h2; exact h2.elim
        | some u => rw [hk] at h2; exact bkV_rep v' u hk _ (h2 c _ g2)
  | [], _ :: _, _, h, _ => h.elim
  | _ :: _, [], _, h, _ => h.elim

theorem Inv.bk {c : Ctx} {w : World} {s s' : St} {gl : List (Nat × Nat)} {nb : Nat} (hI : Inv c w s) (hg : gOK gl nb s'.n = true) (ho : objsOK gl s'.n s s'.objs) : Inv (c.bk gl) w s' := by
  simp only [gOK, Bool.and_eq_true, List.all_eq_true] at hg
  obtain ⟨⟨g1, g2⟩, g3⟩ := hg
  have glt : ∀ {i j : Nat}, gat gl i = some j → i < s'.n := fun h => Nat.le_of_ble_eq_true (g2 _ (gat_mem h))
  have hobj : ∀ {i' : Nat} {x' : AObj}, aget s'.objs i' = some x' → Nat.blt i' s'.n = true ∧ obel s'.n x' = true ∧ objOK gl s i' x' := fun h => objsOK_of ho _ (aget_mem h)
  have split : ∀ {i' b : Nat}, (c.bk gl).ι i' = some b → ∃ i, gat gl i' = some i ∧ c.ι i = some b := fun {i' b} h => by
    simp only [Ctx.bk] at h
    cases hi : gat gl i' with
    | none => rw [hi] at h; cases h
    | some i => rw [hi] at h; exact ⟨i, rfl, h⟩
  have splitt : ∀ {i' : Nat} {q : Nat × Nat × Nat}, (c.bk gl).τ i' = some q → ∃ i, gat gl i' = some i ∧ c.τ i = some q := fun {i' q} h => by
    simp only [Ctx.bk] at h
    cases hi : gat gl i' with
    | none => rw [hi] at h; cases h
    | some i => rw [hi] at h; exact ⟨i, rfl, h⟩
  refine ⟨fun i' hp => ?_, fun i' x' hx => ?_, hI.base_le, hI.old, hI.os, hI.out, hI.fro, fun i' b hi => ?_, fun i' x' b hx hl hi => ?_, fun i' j' b hi hj => ?_, fun i' x' b hx hi => ?_, fun t' b sz cap ht => ?_, fun t1 t2 b sz cap sz' cap' len len' h1 h2 hl1 hl2 => ?_, fun t' len b sz cap hl ht => ?_⟩
  · simp only [Ctx.bk] at hp
    cases hi : gat gl i' with
    | none => rw [hi] at hp; cases hp
    | some i => exact glt hi
  · obtain ⟨k1, k2, _⟩ := hobj hx
    exact ⟨Nat.le_of_ble_eq_true k1, obel_sound k2⟩
  · obtain ⟨i, k1, k2⟩ := split hi
    exact ⟨glt k1, (hI.ids i b k2).2⟩
  · obtain ⟨i, k1, k2⟩ := split hi
    obtain ⟨_, _, k3⟩ := hobj hx
    cases x' with
    | cells cs' =>
      simp only [objOK, k1] at k3
      cases ha : aget s.objs i with
      | none => rw [ha] at k3; exact k3.elim
      | some x =>
        rw [ha] at k3
        cases x with
        | cells cs => exact hI.free i _ b ha rfl k2
        | _ => exact k3.elim
    | map es' =>
      simp only [objOK, k1] at k3
      cases ha : aget s.objs i with
      | none => rw [ha] at k3; exact k3.elim
      | some x =>
        rw [ha] at k3
        cases x with
        | map es => exact hI.free i _ b ha rfl k2
        | _ => exact k3.elim
    | tok _ => cases hl
    | dead => cases hl
  · obtain ⟨i, k1, k2⟩ := split hi
    obtain ⟨j, k3, k4⟩ := split hj
    obtain rfl := hI.inj i j b k2 k4
    exact nodup_inj g1 k1 k3
  · obtain ⟨i, k1, k2⟩ := split hi
    obtain ⟨_, _, k3⟩ := hobj hx
    cases x' with
    | cells cs' =>
      simp only [objOK, k1] at k3
      cases ha : aget s.objs i with
      | none => rw [ha] at k3; exact k3.elim
      | some x =>
        rw [ha] at k3
        cases x with
        | cells cs =>
          obtain ⟨vs, el, m1, m2⟩ := hI.obj i _ b ha k2
          simp only at k3
          cases hb : bkL gl cs' with
          | none => rw [hb] at k3; exact k3.elim
          | some u => rw [hb] at k3; exact ⟨vs, el, m1, bkL_rep cs' u hb _ (Wks.run k3 m2)⟩
        | _ => exact k3.elim
    | map es' =>
      simp only [objOK, k1] at k3
      cases ha : aget s.objs i with
      | none => rw [ha] at k3; exact k3.elim
      | some x =>
        rw [ha] at k3
        cases x with
        | map es =>
          obtain ⟨vs, el, m1, m2⟩ := hI.obj i _ b ha k2
          exact ⟨vs, el, m1, entsO_rep k3 m2⟩
        | _ => exact k3.elim
    | tok len =>
      simp only [objOK, k1] at k3
      exact hI.obj i _ b k3 k2
    | dead => trivial
  · obtain ⟨t, k1, k2⟩ := splitt ht
    have := hI.tks t b sz cap k2
    refine ⟨glt k1, this.2.1, this.2.2.1, fun i' hi => ?_⟩
    obtain ⟨i, _, k3⟩ := split hi
    exact this.2.2.2 i k3
  · obtain ⟨u1, k1, k2⟩ := splitt h1
    obtain ⟨u2, k3, k4⟩ := splitt h2
    have m1 := (hobj hl1).2.2
    have m2 := (hobj hl2).2.2
    simp only [objOK, k1] at m1
    simp only [objOK, k3] at m2
    obtain rfl := hI.two u1 u2 b sz cap sz' cap' len len' k2 k4 m1 m2
    exact nodup_inj g1 k1 k3
  · obtain ⟨t, k1, k2⟩ := splitt ht
    have m1 := (hobj hl).2.2
    simp only [objOK, k1] at m1
    exact hI.tok t len b sz cap m1 k2

section
variable {P : Program} {nb m : Nat} {Q : QT} {t : Sl} {s : St}
theorem le_bk {cb c : Ctx} {gl : List (Nat × Nat)} (hle : cb.le c) (hb : Bd cb nb) (hf : fixB gl nb = true) : cb.le (c.bk gl) := by
  have fx := fixB_of hf
  refine ⟨hle.base, hle.heap0, hle.os, hle.out, fun i b h => ?_, fun i q h => ?_, hle.f, fun i h => ?_⟩
  · have hi := hb.ι i b h; simp only [Ctx.bk, fx i hi, Option.bind_some]; exact hle.ι i b h
  · have hi := hb.τ i q h; simp only [Ctx.bk, fx i hi, Option.bind_some]; exact hle.τ i q h
  · have hi := hb.pend i h; simp only [Ctx.bk, fx i hi, Option.bind_some]; exact hle.pend i h
theorem slotsOK_look {gl : List (Nat × Nat)} {n : Nat} {c : Ctx} : ∀ {t' : Sl}, slotsOK gl n t t' → ∀ i v, VR c (look t i) v → VR (c.bk gl) (look t' i) v
  | [], _, i, v, _ => .any v
  | (j, x) :: r, h, i, v, hv => by
    rw [look_cons]
    cases e : Nat.beq j i with
    | true =>
      rw [cond_true]
      have := Nat.eq_of_beq_eq_true e
      subst this
      have h1 := h.2.1
      cases hx : bkV gl x with
      | none => rw [hx] at h1; exact h1.elim
      | some u => rw [hx] at h1; exact bkV_rep x u hx v (h1 c v hv)
    | false => rw [cond_false]; exact slotsOK_look h.2.2 i v hv
/-- a fresh start: other ids, fewer objects, fewer slots -/
theorem V_head {code : Code} (gl : List (Nat × Nat)) (t' : Sl) (s' : St) (hg : gOK gl nb s'.n = true) (hs : slotsOK gl s'.n t t') (ho : objsOK gl s'.n s s'.objs) (h : V P nb m code Q t' s') : V P nb m code Q t s := by
  intro hst ds cb c w a hle hb hI ha
  have hf : fixB gl nb = true := by simp only [gOK, Bool.and_eq_true] at hg; exact hg.2
  exact h hst ds cb (c.bk gl) w a (le_bk hle hb hf) hb (hI.bk hg ho) ⟨ha.defers, ha.size, fun i => slotsOK_look hs i _ (ha.get i)⟩
theorem Vr_head {x : Code} (gl : List (Nat × Nat)) (t' : Sl) (s' : St) (hg : gOK gl nb s'.n = true) (hs : slotsOK gl s'.n t t') (ho : objsOK gl s'.n s s'.objs) : ∀ {n : Nat}, Vr P nb m x Q n t' s' → Vr P nb m x Q n t s
  | 0, h => h
  | n + 1, h => V_head gl t' s' hg hs ho h
end

mutual
def fz (i : Nat) (cs : List AV) : AV → AV
  | .ptr j o => cond (Nat.beq i j) (.fp (.agg (cs.drop o))) (.ptr j o)
  | .fn f a b => .fn f (fzL i cs a) (fzL i cs b)
  | .ifc t v => .ifc t (fz i cs v)
  | .agg l => .agg (fzL i cs l)
  | .tup l => .tup (fzL i cs l)
  | x => x
def fzL (i : Nat) (cs : List AV) : List AV → List AV
  | [] => []
  | x :: l => fz i cs x :: fzL i cs l
end
section
variable {c c' : Ctx} {i : Nat} {cs : List AV} (hle : c.le c') (hp : ∀ o b, c.ι i = some b → VR c' (.fp (.agg (cs.drop o))) (.pointer (some ⟨b, o, none⟩)))
include hle hp
mutual
theorem fz_rep : ∀ (x : AV) (v : Value), VR c x v → VR c' (fz i cs x) v
  | .ptr j o, v, h => by
    rw [fz]
    cases e : Nat.beq i j with
    | true =>
      have := Nat.eq_of_beq_eq_true e
      subst this
      cases h with
      | ptr _ _ b hb => exact hp o b hb
    | false => exact h.mono hle
  | .fn f a b, v, h => by
    rw [fz]
    cases h with | fn _ _ _ vfs vcs h1 h2 => exact .fn _ _ _ _ _ (fzL_rep a _ h1) (fzL_rep b _ h2)
  | .ifc t x, v, h => by
    rw [fz]
    cases h with | ifc _ _ w hw => exact .ifc _ _ _ (fz_rep x w hw)
  | .agg l, v, h => by
    rw [fz]
    cases h with | agg _ vs hw => exact .agg _ _ (fzL_rep l _ hw)
  | .tup l, v, h => by
    rw [fz]
    cases h with | tup _ vs hw => exact .tup _ _ (fzL_rep l _ hw)
  | .bool _, v, h | .int _ _, v, h | .str _, v, h | .nilptr, v, h | .fp _, v, h | .sl _ _, v, h | .nilmap, v, h | .map _, v, h | .nilfn, v, h | .nilifc, v, h | .rsv _ _, v, h | .osl _ _ _, v, h | .any, v, h => by
    simp only [fz]; exact h.mono hle
theorem fzL_rep : ∀ (l : List AV) (vs : List Value), VRs c l vs → VRs c' (fzL i cs l) vs
  | [], vs, h => by rw [fzL]; cases h; exact .vnil
  | x :: l, vs, h => by
    rw [fzL]
    cases h with | vcons _ _ v vs h1 h2 => exact .vcons _ _ _ _ (fz_rep x v h1) (fzL_rep l vs h2)
end
end
theorem look_map {f : AV → AV} (hf : f .any = .any) : ∀ (t : Sl) (i : Nat), look (t.map fun p => (p.1, f p.2)) i = f (look t i)
  | [], i => hf.symm
  | p :: t, i => by
    rw [List.map_cons, look_cons, look_cons, look_map hf t i]
    cases Nat.beq p.1 i <;> rfl
theorem Inv.freeze {c : Ctx} {w : World} {s : St} (hI : Inv c w s) {i b : Nat} {cs : List AV} (ho : aget s.objs i = some (.cells cs)) (hfl : cs.all AV.flat1 = true) (hb : c.ι i = some b) :
    ∃ c', c.le c' ∧ Inv c' w (s.put i .dead) ∧ ∀ o, VR c' (.fp (.agg (cs.drop o))) (.pointer (some ⟨b, o, none⟩)) := by
  obtain ⟨vs, el, h1, h2⟩ := hI.obj i _ b ho hb
  have hnone := hI.free i _ b ho rfl hb
  have hle : c.le (c.frz b fun o => vs[o]?) := Ctx.le_frz fun o v hv => by rw [hnone o] at hv; cases hv
  have hI1 : Inv c w (s.put i .dead) := by
    have := hI.turn (x' := .dead) ho rfl hb rfl (fun _ _ => rfl) rfl rfl trivial (least s.lo i)
    exact this
  refine ⟨_, hle, hI1.frz b _ (fun o v hv => ?_) (hI.ids i b hb).2.1 (fun j x hx hl hj => ?_) (fun t sz cap len ht _ => absurd hb ((hI.tks t b sz cap ht).2.2.2 i)) hle, fun o => ?_⟩
  · simp only [World.cell?, h1]; exact hv
  · have := hI.inj i j b hb hj
    subst this
    have hx' : aget (aset s.objs i .dead) i = some x := hx
    rw [aget_aset_same _ s.objs _ ho] at hx'
    cases hx'
    cases hl
  · have hall := List.all_eq_true.1 hfl
    refine .fp _ _ _ (List.all_eq_true.2 fun x hx => hall x (List.mem_of_mem_drop hx)) (cellsR_mk (VRs.drop o (h2.mono hle)) fun j v hj => ?_)
    rw [List.getElem?_drop] at hj
    show (c.frz b fun o => vs[o]?).f b (o + j) = some v
    simp only [Ctx.frz, if_true]
    simpa using hj
theorem V_freeze {P : Program} {nb m : Nat} {Q : QT} {t : Sl} {s : St} {code : Code} (i : Nat) {cs : List AV} (ho : aget s.objs i = some (.cells cs)) (hfl : cs.all AV.flat1 = true)
    (h : V P nb m code Q (t.map fun p => (p.1, fz i cs p.2)) (s.put i .dead)) : V P nb m code Q t s := by
  intro hst ds cb c w a hle hb hI ha
  cases hi : c.ι i with
  | some b =>
    obtain ⟨c', k1, k2, k3⟩ := hI.freeze ho hfl hi
    refine h hst ds cb c' w a (hle.trans k1) hb k2 ⟨ha.defers, ha.size, fun j => ?_⟩
    rw [look_map (by simp only [fz])]
    exact fz_rep k1 (fun o b' hb' => by rw [hi] at hb'; cases hb'; exact k3 o) _ _ (ha.get j)
  | none =>
    refine h hst ds cb c w a hle hb ?_ ⟨ha.defers, ha.size, fun j => ?_⟩
    · have hni : ∀ j x, aget (aset s.objs i .dead) j = some x → (j = i ∧ x = .dead) ∨ (j ≠ i ∧ aget s.objs j = some x) := by
        intro j x hj
        by_cases e : i = j
        · subst e; rw [aget_aset_same _ s.objs _ ho] at hj; cases hj; exact .inl ⟨rfl, rfl⟩
        · rw [aget_aset_ne e] at hj; exact .inr ⟨fun e' => e e'.symm, hj⟩
      refine ⟨hI.pnd, fun j x hj => ?_, hI.base_le, hI.old, hI.os, hI.out, hI.fro, hI.ids, fun j x b hj hv hi => ?_, hI.inj, fun j x b hj hi => ?_, hI.tks, fun t1 t2 b sz cap sz' cap' len len' h1 h2 hl hl' => ?_, fun t1 len1 b sz cap hl h1 => ?_⟩
      · rcases hni j x hj with ⟨rfl, rfl⟩ | ⟨_, hx⟩
        · exact ⟨(hI.bel _ _ ho).1, trivial⟩
        · exact hI.bel j x hx
      · rcases hni j x hj with ⟨rfl, rfl⟩ | ⟨_, hx⟩
        · cases hv
        · exact hI.free j x b hx hv hi
      · rcases hni j x hj with ⟨rfl, rfl⟩ | ⟨_, hx⟩
        · trivial
        · exact hI.obj j x b hx hi
      · rcases hni _ _ hl with ⟨_, e⟩ | ⟨_, hl⟩
        · cases e
        · rcases hni _ _ hl' with ⟨_, e⟩ | ⟨_, hl'⟩
          · cases e
          · exact hI.two t1 t2 b sz cap sz' cap' len len' h1 h2 hl hl'
      · rcases hni _ _ hl with ⟨_, e⟩ | ⟨_, hl⟩
        · cases e
        · exact hI.tok t1 len1 b sz cap hl h1
    · rw [look_map (by simp only [fz])]
      exact fz_rep (Ctx.le.refl c) (fun o b' hb' => by rw [hi] at hb'; cases hb') _ _ (ha.get j)
theorem wk_refl (a : AV) : Wk a a ↔ True := ⟨fun _ => trivial, fun _ => Wk.refl a⟩
theorem wk_any (a : AV) : Wk a .any ↔ True := ⟨fun _ => trivial, fun _ => Wk.any a⟩
theorem wk_fro (k : SK) (xs : List AV) : Wk (.sl k xs) (.sl .fro xs) ↔ True := ⟨fun _ => trivial, fun _ => Wk.fro k xs⟩
theorem wk_niltok (i : Nat) : Wk (.sl .nil []) (.sl (.tok i) []) ↔ True := ⟨fun _ => trivial, fun _ c v h => by
  cases h with
  | slnil _ _ => exact .slnil _ (.inr (.inr ⟨i, rfl⟩))
  | sle _ _ _ hkk => rcases hkk with e | e | ⟨e, _⟩ <;> cases e
  | sl _ _ b o cap sz h1 h2 h3 h4 h5 => exact absurd rfl h1⟩
theorem wk_agg {l m : List AV} (h : Wks l m) : Wk (.agg l) (.agg m) := Wk.agg h
theorem wks_refl (l : List AV) : Wks l l ↔ True := ⟨fun _ => trivial, fun _ => Wks.refl l⟩
theorem wks_nil : Wks [] [] ↔ True := ⟨fun h => trivial, fun h => trivial⟩
theorem wks_cons (a b : AV) (l m : List AV) : Wks (a :: l) (b :: m) ↔ Wk a b ∧ Wks l m := ⟨fun h => ⟨h.1, h.2⟩, fun h => ⟨h.1, h.2⟩⟩
theorem wk_tup {l m : List AV} (h : Wks l m) : Wk (.tup l) (.tup m) := Wk.tup h
theorem wk_fn {f : Fn} {l m l' m' : List AV} (h : Wks l m) (h' : Wks l' m') : Wk (.fn f l l') (.fn f m m') := Wk.fn h h'
theorem PRP_done (P : Program) (m : Nat) (ops : Array Oper) (Q : QT) (t : Sl) (s : St) : PRP P m ops Q (.done t s) = Q .normal t s := rfl
theorem PRP_call (P : Program) (m : Nat) (ops : Array Oper) (Q : QT) (d : Option Nat) (l : List Oper) (t : Sl) (f : FuncId) (args : List AV) (s : St) : PRP P m ops Q (.call d l t f args s) = CallP P m ops Q d l t f args s := rfl
theorem Vthen_n (K : Sl → St → Prop) (Q : QT) (t : Sl) (s : St) : Vthen K Q .normal t s = K t s := rfl
theorem Vthen_e (K : Sl → St → Prop) (Q : QT) (i : Nat) (t : Sl) (s : St) : Vthen K Q (.exit i) t s = Q (.exit i) t s := rfl
theorem Vthen_r (K : Sl → St → Prop) (Q : QT) (t : Sl) (s : St) : Vthen K Q .ret t s = Q .ret t s := rfl
theorem Vblock_n (i : Nat) (Q : QT) (t : Sl) (s : St) : Vblock i Q .normal t s = Q .normal t s := rfl
theorem Vblock_e (i j : Nat) (Q : QT) (t : Sl) (s : St) : Vblock i Q (.exit j) t s = ((j = i → Q .normal t s) ∧ (j ≠ i → Q (.exit j) t s)) := rfl
theorem Vblock_r (i : Nat) (Q : QT) (t : Sl) (s : St) : Vblock i Q .ret t s = Q .ret t s := rfl
theorem condP_b (b : Bool) (X Y : Prop) : condP (.bool b) X Y = ((b = true → X) ∧ (b = false → Y)) := rfl
/-- a loop of at most N rounds, round by round -/
theorem Vr_for {P : Program} {nb m : Nat} {Q : QT} {x : Code} (N : Nat) (I : Nat → Prop) (T : Nat → Sl) (S : Nat → St) (h0 : I 0)
    (hstep : ∀ i, i < N → I i → ∀ n, (I (i + 1) → Vr P nb m x Q n (T (i + 1)) (S (i + 1))) → V P nb m x (Vthen (Vr P nb m x Q n) Q) (T i) (S i))
    (hend : I N → ∀ n, V P nb m x (Vthen (Vr P nb m x Q n) Q) (T N) (S N)) : Vr P nb m x Q (N + 1) (T 0) (S 0) := by
  have key : ∀ k, k ≤ N → I (N - k) → Vr P nb m x Q (k + 1) (T (N - k)) (S (N - k)) := by
    intro k
    induction k with
    | zero => intro _ hI; exact hend hI 0
    | succ k ih =>
      intro hk hI
      refine hstep (N - (k + 1)) (by omega) hI (k + 1) fun hI' => ?_
      have e : N - (k + 1) + 1 = N - k := by omega
      rw [e] at hI' ⊢
      exact ih (by omega) hI'
  have := key N (Nat.le_refl N) (by rw [Nat.sub_self]; exact h0)
  rwa [Nat.sub_self] at this
theorem wr_nat {n : Int} {k : Nat} (h : n = (k : Int)) (hk : k < 9223372036854775808) : wr .i64 n = (k : Int) := by
  subst h; simp only [wr]; rw [if_pos (by omega)]
theorem wr_int {n : Int} (h : -9223372036854775808 ≤ n) (hk : n < 9223372036854775808) : wr .i64 n = n := by
  simp only [wr]; rw [if_pos ⟨h, hk⟩]
theorem idx_cast (k : IntKind) (i : Nat) : idxOf (.int k (i : Int)) = some i := rfl
theorem idx_0 (k : IntKind) : idxOf (.int k 0) = some 0 := rfl
theorem idx_1 (k : IntKind) : idxOf (.int k 1) = some 1 := rfl
theorem idx_2 (k : IntKind) : idxOf (.int k 2) = some 2 := rfl
/-- may so many elements be appended? -/
def appOK (size bytes : Nat) (xs ys : List AV) : Bool := Nat.ble ((xs.length + ys.length) * bytes) 140737488355328 && Nat.blt 0 size && ys.all (fun y => y.cells.all AV.one) && Nat.ble (xs.length + ys.length) 9223372036854775807 && elSize size xs && elSize size ys
def appTok (t : Nat) (s : St) (xs ys : List AV) : Option AObj → Option (AV × St)
  | some (.tok len) => cond (Nat.beq len xs.length) (some (.sl (.tok s.n) (xs ++ ys), St.push (s.put t .dead) (.tok (xs.length + ys.length)))) none
  | _ => none
theorem appTok_some (t : Nat) (s : St) (xs ys : List AV) (len : Nat) : appTok t s xs ys (some (.tok len)) = cond (Nat.beq len xs.length) (some (.sl (.tok s.n) (xs ++ ys), St.push (s.put t .dead) (.tok (xs.length + ys.length)))) none := rfl
theorem aappend_empty (te : TI) (s : St) (k k' : SK) (xs : List AV) : aappend te s (.sl k xs) (.sl k' []) = some (.sl k xs, s) := rfl
theorem aappend_rsv0 (te : TI) (s : St) (t sz : Nat) (k : SK) : aappend te s (.rsv t sz) (.sl k []) = some (.rsv t sz, s) := rfl
theorem aappend_nil (te : TI) (s : St) (k : SK) (xs : List AV) (y : AV) (ys : List AV) : aappend te s (.sl .nil xs) (.sl k (y :: ys)) = cond (appOK te.size te.bytes xs (y :: ys)) (some (.sl (.tok s.n) (xs ++ y :: ys), s.push (.tok (xs.length + (y :: ys).length)))) none := rfl
theorem aappend_full (te : TI) (s : St) (k : SK) (xs : List AV) (y : AV) (ys : List AV) : aappend te s (.sl .full xs) (.sl k (y :: ys)) = cond (appOK te.size te.bytes xs (y :: ys)) (some (.sl (.tok s.n) (xs ++ y :: ys), s.push (.tok (xs.length + (y :: ys).length)))) none := rfl
theorem aappend_tok (te : TI) (s : St) (t : Nat) (k : SK) (xs : List AV) (y : AV) (ys : List AV) : aappend te s (.sl (.tok t) xs) (.sl k (y :: ys)) = cond (appOK te.size te.bytes xs (y :: ys)) (appTok t s xs (y :: ys) (aget s.objs t)) none := by
  unfold aappend appTok appOK
  simp only
  generalize aget s.objs t = o
  cases o with
  | none => rfl
  | some x => cases x <;> rfl
def appRsv (t : Nat) (s : St) (ys : List AV) : Option AObj → Option (AV × St)
  | some (.tok len) => cond (Nat.beq len 0) (some (.sl (.tok s.n) ys, St.push (s.put t .dead) (.tok ys.length))) none
  | _ => none
theorem appRsv_some (t : Nat) (s : St) (ys : List AV) (len : Nat) : appRsv t s ys (some (.tok len)) = cond (Nat.beq len 0) (some (.sl (.tok s.n) ys, St.push (s.put t .dead) (.tok ys.length))) none := rfl
theorem aappend_rsv (te : TI) (s : St) (t sz : Nat) (k : SK) (y : AV) (ys : List AV) : aappend te s (.rsv t sz) (.sl k (y :: ys)) = cond (appOK te.size te.bytes [] (y :: ys) && Nat.beq sz te.size) (appRsv t s (y :: ys) (aget s.objs t)) none := by
  have e : appOK te.size te.bytes [] (y :: ys) = (Nat.ble ((y :: ys).length * te.bytes) 140737488355328 && Nat.blt 0 te.size && (y :: ys).all (fun y => y.cells.all AV.one) && Nat.ble (y :: ys).length 9223372036854775807 && elSize te.size (y :: ys)) := by
    simp [appOK, elSize]
  rw [e]
  unfold aappend appRsv
  simp only
  generalize aget s.objs t = o
  cases o with
  | none => rfl
  | some x => cases x <;> rfl
theorem appOK_of {size bytes : Nat} {xs ys : List AV} (h1 : elSize size xs = true) (h2 : elSize size ys = true) (h3 : ys.all (fun y => y.cells.all AV.one) = true) (h4 : 0 < size) (h5 : (xs.length + ys.length) * bytes ≤ 140737488355328) (h6 : 0 < bytes) : appOK size bytes xs ys = true := by
  unfold appOK
  simp only [Bool.and_eq_true, nble, decide_eq_true_eq]
  have : xs.length + ys.length ≤ (xs.length + ys.length) * bytes := Nat.le_mul_of_pos_right _ h6
  exact ⟨⟨⟨⟨⟨h5, Nat.ble_eq_true_of_le h4⟩, h3⟩, by omega⟩, h1⟩, h2⟩
theorem elSize_map {α : Type} {f : α → AV} {n : Nat} (h : ∀ x, (f x).cells.length = n) (l : List α) : elSize n (l.map f) = true := by
  cases l with
  | nil => rfl
  | cons x l => simp only [List.map_cons, elSize, h x, beq_of]
theorem ones_map {α : Type} {f : α → AV} (h : ∀ x, (f x).cells.all AV.one = true) (l : List α) : (l.map f).all (fun y => y.cells.all AV.one) = true := by
  rw [List.all_eq_true]; intro y hy; obtain ⟨x, _, rfl⟩ := List.mem_map.1 hy; exact h x

/-- a slice that is nil, or not -/
theorem fro_split {c : Ctx} {xs : List AV} {v : Value} (h : VR c (.sl .fro xs) v) : (xs = [] ∧ VR c (.sl .nil []) v) ∨ VR c (.sl .non xs) v := by
  cases h with
  | slnil _ _ => exact .inl ⟨rfl, .slnil _ (.inl rfl)⟩
  | sle _ a cap _ => exact .inr (.sle _ a cap (.inr (.inl rfl)))
  | sl _ _ b o cap sz h1 h2 h3 h4 h5 => exact .inr (.sl .non _ b o cap sz (by simp) h2 h3 (by simp) (by simp))
theorem Det_fro {P : Program} {f : FuncId} {a b : List AV} {xs : List AV} {s s' : St} {v : AV} (h1 : xs = [] → Det P f (a ++ .sl .nil [] :: b) s v s') (h2 : Det P f (a ++ .sl .non xs :: b) s v s') : Det P f (a ++ .sl .fro xs :: b) s v s' := by
  refine ⟨h2.1, fun c w vs hI hv => ?_⟩
  have hl := VRs.length hv
  have key : ∀ (l m : List AV) (x : AV) (us : List Value), VRs c (l ++ x :: m) us → ∃ u1 u u2, us = u1 ++ u :: u2 ∧ VRs c l u1 ∧ VR c x u ∧ VRs c m u2 := by
    intro l
    induction l with
    | nil => intro m x us h; cases h with | vcons _ _ u us h1 h2 => exact ⟨[], u, us, rfl, .vnil, h1, h2⟩
    | cons y l ih =>
      intro m x us h
      cases h with
      | vcons _ _ u us h1 h2 =>
        obtain ⟨u1, u', u2, e, g1, g2, g3⟩ := ih m x us h2
        exact ⟨u :: u1, u', u2, by rw [e]; rfl, .vcons _ _ _ _ h1 g1, g2, g3⟩
  obtain ⟨u1, u, u2, e, g1, g2, g3⟩ := key a b _ _ hv
  rcases fro_split g2 with ⟨e1, k⟩ | k
  · exact (h1 e1).2 c w vs hI (by rw [e]; exact VRs.append g1 (.vcons _ _ _ _ k g3))
  · exact h2.2 c w vs hI (by rw [e]; exact VRs.append g1 (.vcons _ _ _ _ k g3))
theorem Pure_fro {P : Program} {f : FuncId} (a b : List AV) {xs : List AV} {v : AV} (h1 : xs = [] → Pure P f (a ++ .sl .nil [] :: b) v) (h2 : Pure P f (a ++ .sl .non xs :: b) v) : Pure P f (a ++ .sl .fro xs :: b) v := fun s => Det_fro (fun e => h1 e s) (h2 s)
theorem bkV_flat {gl : List (Nat × Nat)} {x : AV} (h : x.flat1 = true) : bkV gl x = some x := by
  cases x with
  | ptr i o => cases h
  | map i => cases h
  | rsv t sz => cases h
  | osl i k cap => cases h
  | sl k xs => cases k with
    | tok t => cases h
    | _ => simp only [bkV]
  | agg cs => cases h
  | tup cs => cases h
  | fn f fs cs =>
    simp only [AV.flat1, Bool.and_eq_true, List.isEmpty_iff] at h
    obtain ⟨rfl, rfl⟩ := h
    rfl
  | ifc t v => cases v <;> first | rfl | cases h
  | _ => simp only [bkV]
theorem bkL_flat {gl : List (Nat × Nat)} : ∀ {l : List AV}, l.all AV.flat1 = true → bkL gl l = some l
  | [], _ => rfl
  | x :: l, h => by
    simp only [List.all_cons, Bool.and_eq_true] at h
    rw [bkL, bkV_flat h.1, bkL_flat h.2]
theorem bel0_flat {n : Nat} {x : AV} (h : x.flat1 = true) : bel0 n x = true := by
  cases x with
  | ptr i o => cases h
  | map i => cases h
  | rsv t sz => cases h
  | osl i k cap => cases h
  | sl k xs => cases k with
    | tok t => cases h
    | _ => rfl
  | agg cs => cases h
  | tup cs => cases h
  | fn f fs cs => exact h
  | ifc t v => exact h
  | _ => rfl
theorem bel0s_flat {n : Nat} {l : List AV} (h : l.all AV.flat1 = true) : l.all (bel0 n) = true := List.all_eq_true.2 fun x hx => bel0_flat (List.all_eq_true.1 h x hx)
theorem fn_bel {n : Nat} {f : Fn} {l : List AV} (h : l.all AV.flat1 = true) : Bel n (.fn f [] l) := .fn _ _ _ (by simp) fun x hx => flat1_bel n (List.all_eq_true.1 h x hx)
end Go.Sy
