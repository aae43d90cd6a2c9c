/- Lemmas: contracts that the kernel's run of the fast interpreter gives; functions that are not run by their code, by their contracts; no condition. -/
import Derived.Test.YtjfimhfnpbaicaaGreatDoorTt
import Derived.Test.YtjfimhfnpbaicaaGreatDoorTz
import Derived.Test.YtjfimhfnpbaicaaGreatDoorSy22
import Derived.Test.YtjfimhfnpbaicaaGreatDoorSy28
namespace Go.Sy
set_option linter.unusedSimpArgs false
set_option linter.unusedVariables false
def eraseT : AV → AV
  | .tup l => .tup (l.map AV.erase)
  | x => x.erase
theorem wk_erase1 : ∀ a : AV, Wk a a.erase1
  | .sl (.tok t) xs => Wk.fro _ _
  | .sl .nil xs | .sl .fro xs | .sl .non xs | .sl .full xs => Wk.refl _
  | .bool _ | .int _ _ | .str _ | .nilptr | .ptr _ _ | .fp _ | .nilmap | .map _ | .fn _ _ _ | .nilfn | .ifc _ _ | .nilifc | .rsv _ _ | .osl _ _ _ | .agg _ | .tup _ | .any => Wk.refl _
theorem wks_map {f : AV → AV} (h : ∀ a, Wk a (f a)) : ∀ l : List AV, Wks l (l.map f)
  | [] => trivial
  | a :: l => ⟨h a, wks_map h l⟩
theorem wk_erase : ∀ a : AV, Wk a a.erase
  | .agg l => Wk.agg (wks_map wk_erase1 l)
  | .sl k xs => wk_erase1 (.sl k xs)
  | .bool _ | .int _ _ | .str _ | .nilptr | .ptr _ _ | .fp _ | .nilmap | .map _ | .fn _ _ _ | .nilfn | .ifc _ _ | .nilifc | .rsv _ _ | .osl _ _ _ | .tup _ | .any => Wk.refl _
theorem wk_eraseT : ∀ a : AV, Wk a (eraseT a)
  | .tup l => Wk.tup (wks_map wk_erase l)
  | .agg l => wk_erase (.agg l)
  | .sl k xs => wk_erase (.sl k xs)
  | .bool _ | .int _ _ | .str _ | .nilptr | .ptr _ _ | .fp _ | .nilmap | .map _ | .fn _ _ _ | .nilfn | .ifc _ _ | .nilifc | .rsv _ _ | .osl _ _ _ | .any => Wk.refl _
def objK (n : Nat) (so : List (Nat × AObj)) (p : Nat × AObj) : Bool :=
  Nat.blt p.1 n && match p.2 with
    | .cells cs => cs.all AV.flat1 && (match aget so p.1 with | some (.cells ds) => AV.beqs cs ds | _ => false)
    | _ => false
/-- the run's end: the value looked for, the objects that are kept -/
noncomputable def finK (lit : AV) (n : Nat) (objs : List (Nat × AObj)) : Ko := fun v s' => cond (AV.beq (eraseT v) lit) (cond (objs.all (objK n s'.objs)) (some (.bool true, ⟨0, [], 0⟩)) none) none
theorem Det_run {P : Program} {E : Env} (hE : EnvOK P dstatic E) {f : FuncId} {args : List AV} {s : St} {lit : AV} (n : Nat) (objs : List (Nat × AObj)) (hb : Bel s.n lit)
    (h : runF n E f args s (finK lit s.n objs) = some (.bool true, ⟨0, [], 0⟩)) : Det P f args s lit ⟨s.n, objs, 0⟩ := by
  obtain ⟨v, s', h1, h2, h3, h4⟩ := runF_sound hE n f args s _ _ h
  unfold finK at h1
  cases e1 : AV.beq (eraseT v) lit with
  | false => rw [e1] at h1; cases h1
  | true =>
    rw [e1, cond_true] at h1
    cases e2 : objs.all (objK s.n s'.objs) with
    | false => rw [e2] at h1; cases h1
    | true =>
      have hv := AV.beq_eq e1
      refine ⟨h2, fun c w vs hI hvs => (h3 c w vs hI hvs).mono ?_⟩
      rintro e w' ⟨u, c', r, s2, rfl, hle, hI', hr, rfl, rfl⟩
      have hcut := hI'.gc s.n objs 0 fun i x hx => by
        have hm := List.all_eq_true.1 e2 _ (aget_mem hx)
        simp only [objK, Bool.and_eq_true] at hm
        obtain ⟨m1, m2⟩ := hm
        refine ⟨Nat.le_of_ble_eq_true m1, ?_⟩
        cases x with
        | cells cs =>
          simp only [Bool.and_eq_true] at m2
          obtain ⟨m2, m3⟩ := m2
          refine ⟨?_, ?_⟩
          · intro y hy
            exact flat1_bel _ (List.all_eq_true.1 m2 y hy)
          · cases ha : aget s2.objs i with
            | none => rw [ha] at m3; cases m3
            | some z =>
              rw [ha] at m3
              cases z with
              | cells ds => have := AV.beqs_eq m3; subst this; rfl
              | map _ => cases m3
              | tok _ => cases m3
              | dead => cases m3
        | map _ => cases m2
        | tok _ => cases m2
        | dead => cases m2
      refine ⟨u, c'.cut s.n, lit, ⟨s.n, objs, 0⟩, rfl, Ctx.le_cut hle hI.ids_lt hI.tks_lt hI.pnd, hcut, ?_, rfl, rfl⟩
      have hw := wk_eraseT r c' u hr
      rw [hv] at hw
      exact hw.cut hb
/-- functions by contract: what each answers, if it is of the kind that its contract speaks of -/
def orac (g : List AV → Option AV) : CallC → List AV → St → Ko → Fi := fun _ args s k => match g args with | some v => k v s | none => none
theorem orac_ok {P : Program} {f : FuncId} {g : List AV → Option AV} (hg : ∀ args v, g args = some v → Pure P f args v) (call : CallC) (args : List AV) (s : St) (k : Ko) (r : AV × St) (h : orac g call args s k = some r) :
    ∃ v s', k v s' = some r ∧ bodied P f ∧ (ACalls P f args s fun r s'' => r = v ∧ s'' = s') ∧ Fr s s' := by
  unfold orac at h
  cases e : g args with
  | none => rw [e] at h; cases h
  | some v =>
    rw [e] at h
    obtain ⟨h1, h2⟩ := hg args v e s
    exact ⟨v, s, h, h1, h2, Fr.refl s⟩
noncomputable def envOf (O : Nat → Option (List AV → Option AV)) : Env := { T := ty, F := fnOf, O := fun f => (O f).map orac, D := drawF, R := 1000 }
theorem envOf_ok {O : Nat → Option (List AV → Option AV)} (hO : ∀ f g, O f = some g → ∀ args v, g args = some v → Pure PG f args v) : EnvOK PG dstatic (envOf O) where
  T := ty_ok
  F := fun f fn h => by
    have hf := fn_ok f fn h
    have hlt : f < 282 := by
      rcases Nat.lt_or_ge f 282 with h1 | h1
      · exact h1
      · have h : fnOf f = some fn := h
        unfold fnOf at h
        have hb : Nat.blt f 282 = false := by
          cases e : Nat.blt f 282 with
          | false => rfl
          | true => exact absurd (Nat.le_of_ble_eq_true e) (by omega)
        rw [hb] at h; cases h
    have h2 := List.all_eq_true.1 stat_all f (List.mem_range.2 hlt)
    have h : fnOf f = some fn := h
    unfold stat1 at h2
    rw [h] at h2
    simp only [Bool.and_eq_true, Bool.not_eq_true'] at h2
    refine ⟨hf, h2.2, fun code hc => ?_⟩
    have h3 := h2.1
    rw [hc] at h3
    exact h3
  O := fun f o h call hcall args s k r hr => by
    have h : (O f).map orac = some o := h
    cases e : O f with
    | none => rw [e] at h; cases h
    | some g => rw [e] at h; cases h; exact orac_ok (hO f g e) call args s k r hr
  D := drawOK mixed
end Go.Sy
