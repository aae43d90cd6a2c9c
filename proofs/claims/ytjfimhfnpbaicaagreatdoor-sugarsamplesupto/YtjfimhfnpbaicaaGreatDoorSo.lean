/- Lemmas about given functions: lives() answers true; by contracts of the functions that the fast interpreter does not cover, and the kernel's run of it; no condition. -/
import Derived.Test.YtjfimhfnpbaicaaGreatDoorSn
import Derived.Test.YtjfimhfnpbaicaaGreatDoorSf1
import Derived.Test.YtjfimhfnpbaicaaGreatDoorSe1
import Derived.Test.YtjfimhfnpbaicaaGreatDoorSk
import Derived.KernelRfl
namespace Go.Sy
set_option linter.unusedSimpArgs false
set_option linter.unusedVariables false
set_option maxRecDepth 100000
mutual
/-- a value, its slices of the least known kind -/
def AV.deep : AV → AV
  | .sl _ xs => .sl .fro (AV.deeps xs)
  | .agg cs => .agg (AV.deeps cs)
  | x => x
def AV.deeps : List AV → List AV
  | [] => []
  | x :: l => x.deep :: AV.deeps l
end
theorem deeps_length : ∀ l : List AV, (AV.deeps l).length = l.length
  | [] => rfl
  | x :: l => by simp [AV.deeps, deeps_length l]
theorem deep_cells (x : AV) : x.deep.cells = AV.deeps x.cells := by
  cases x <;> simp [AV.deep, AV.cells, AV.deeps]
theorem deep_flat1 {x : AV} (h : x.flat1 = true) : x.deep.flat1 = true := by
  cases x with
  | sl k xs => rfl
  | agg cs => cases h
  | _ => simpa [AV.deep] using h
theorem deeps_flat : ∀ {l : List AV}, l.all AV.flat1 = true → (AV.deeps l).all AV.flat1 = true
  | [], _ => rfl
  | x :: l, h => by
    simp only [List.all_cons, Bool.and_eq_true] at h
    simp only [AV.deeps, List.all_cons, Bool.and_eq_true]
    exact ⟨deep_flat1 h.1, deeps_flat h.2⟩
theorem deep_flat {x : AV} (h : x.flat = true) : x.deep.flat = true := by
  cases x with
  | agg cs => exact deeps_flat h
  | sl k xs => rfl
  | _ => simpa [AV.deep] using h
def Tgt.deep : Tgt → Tgt
  | .val a v => .val a.deep v
  | .cells l b o => .cells (AV.deeps l) b o
  | .vals l vs => .vals (AV.deeps l) vs
  | .els sz l b o => .els sz (AV.deeps l) b o
theorem Rep.deep {c : Ctx} {t : Tgt} (r : Rep c t) : Rep c t.deep := by
  induction r with
  | any v => exact .any v
  | bool b => exact .bool b
  | int k n => exact .int k n
  | str s => exact .str s
  | nilptr => exact .nilptr
  | ptr id off b h1 => exact .ptr id off b h1
  | fp x b o hf h ih => exact .fp x b o hf h
  | slnil k h1 => exact .slnil _ (.inr (.inl rfl))
  | sle k a cap h1 => exact .sle _ a cap (.inl rfl)
  | sl k xs b o cap sz h1 _ h3 h4 h5 ih =>
    have := Rep.sl (c := c) .fro (AV.deeps xs) b o cap sz (by simp) ih (by rw [deeps_length]; exact h3) ⟨by simp, by simp⟩ (by simp)
    rw [deeps_length] at this
    exact this
  | nilmap => exact .nilmap
  | map id b h1 => exact .map id b h1
  | fn f fs cs vfs vcs h1 h2 _ _ => exact .fn f fs cs vfs vcs h1 h2
  | nilfn => exact .nilfn
  | ifc t a v h _ => exact .ifc t a v h
  | nilifc => exact .nilifc
  | rsv t sz b cap h1 => exact .rsv t sz b cap h1
  | osl id n cap b h1 h2 => exact .osl id n cap b h1 h2
  | agg l vs _ i1 => exact .agg _ vs i1
  | tup l vs h _ => exact .tup l vs h
  | cnil b o => exact .cnil b o
  | ccons x l b o v h1 _ _ i1 i2 => exact .ccons _ _ b o v h1 i1 i2
  | vnil => exact .vnil
  | vcons x l v vs _ _ i1 i2 => exact .vcons _ _ v vs i1 i2
  | enil sz b o => exact .enil sz b o
  | econs sz x l b o h1 h2 _ _ i1 i2 =>
    refine .econs sz _ _ b o ?_ (deep_flat h2) ?_ i2
    · rw [deep_cells, deeps_length]; exact h1
    · rw [deep_cells]; exact i1
theorem wk_deep (x : AV) : Wk x x.deep := fun c v h => h.deep
theorem Pure.wk {P : Program} {f : FuncId} {args args' : List AV} {v : AV} (h : Pure P f args' v) (hw : Wks args args') : Pure P f args v := fun s =>
  ⟨(h s).1, fun c w vs hI hv => (h s).2 c w vs hI (hw.run hv)⟩
def strsOf : List AV → Option (List Bytes)
  | [] => some []
  | .str s :: l => match strsOf l with | some q => some (s :: q) | none => none
  | _ => none
theorem strsOf_eq : ∀ {xs : List AV} {l : List Bytes}, strsOf xs = some l → xs = l.map .str
  | [], l, h => by cases h; rfl
  | x :: xs, l, h => by
    cases x with
    | str s =>
      simp only [strsOf] at h
      cases e : strsOf xs with
      | none => rw [e] at h; cases h
      | some q => rw [e] at h; cases h; rw [strsOf_eq e]; rfl
    | _ => simp only [strsOf] at h; cases h
def lstsOf : List AV → Option (List (List Bytes))
  | [] => some []
  | .sl .fro xs :: l => match strsOf xs, lstsOf l with | some p, some q => some (p :: q) | _, _ => none
  | _ => none
theorem lstsOf_eq : ∀ {xs : List AV} {l : List (List Bytes)}, lstsOf xs = some l → xs = l.map strs
  | [], l, h => by cases h; rfl
  | x :: xs, l, h => by
    unfold lstsOf at h
    split at h
    · cases h; rename_i e; cases e
    · rename_i ys l' e
      cases e
      cases e1 : strsOf ys with
      | none => rw [e1] at h; cases h
      | some p =>
        rw [e1] at h
        cases e2 : lstsOf xs with
        | none => rw [e2] at h; cases h
        | some q => rw [e2] at h; cases h; rw [lstsOf_eq e2, strsOf_eq e1]; rfl
    · cases h
def g24 : List AV → Option AV
  | [x] => match x.deep with
    | .sl .fro xs => match strsOf xs with | some l => cond (Nat.ble l.length lim) (some (strs l)) none | none => none
    | _ => none
  | _ => none
theorem g24_ok (args : List AV) (v : AV) (h : g24 args = some v) : Pure PG 24 args v := by
  unfold g24 at h
  split at h
  · rename_i x
    split at h
    · rename_i xs hx
      split at h
      · rename_i l hl
        cases e : Nat.ble l.length lim with
        | false => rw [e] at h; cases h
        | true =>
          rw [e] at h; cases h
          refine (clone_strs l (Nat.le_of_ble_eq_true e)).wk ⟨?_, trivial⟩
          have := wk_deep x
          rw [hx, strsOf_eq hl] at this
          exact this
      · cases h
    · cases h
  · cases h
def g82 : List AV → Option AV
  | [.sl k xs, .str sep] => match strsOf xs with
    | some l => cond (Nat.ble l.length 140737488355328) (cond (Nat.ble (Lib.join l sep).length 140737488355328) (some (.str (Lib.join l sep))) none) none
    | none => none
  | _ => none
theorem g82_ok (args : List AV) (v : AV) (h : g82 args = some v) : Pure PG 82 args v := by
  unfold g82 at h
  split at h
  · rename_i k xs sep
    split at h
    · rename_i l hl
      cases e : Nat.ble l.length 140737488355328 with
      | false => rw [e] at h; cases h
      | true =>
        rw [e, cond_true] at h
        cases e2 : Nat.ble (Lib.join l sep).length 140737488355328 with
        | false => rw [e2] at h; cases h
        | true =>
          rw [e2] at h; cases h
          rw [strsOf_eq hl]
          exact join_det k l sep (Nat.le_of_ble_eq_true e) (Nat.le_of_ble_eq_true e2)
    · cases h
  · cases h
def g111 : List AV → Option AV
  | [x] => match x.deep with
    | .sl .fro xs => match lstsOf xs with | some l => cond (Nat.ble l.length lim) (cond (Nat.ble l.flatten.length lim) (some (strs l.flatten)) none) none | none => none
    | _ => none
  | _ => none
theorem g111_ok (args : List AV) (v : AV) (h : g111 args = some v) : Pure PG 111 args v := by
  unfold g111 at h
  split at h
  · rename_i x
    split at h
    · rename_i xs hx
      split at h
      · rename_i l hl
        cases e : Nat.ble l.length lim with
        | false => rw [e] at h; cases h
        | true =>
          rw [e, cond_true] at h
          cases e2 : Nat.ble l.flatten.length lim with
          | false => rw [e2] at h; cases h
          | true =>
            rw [e2] at h; cases h
            refine (concat_ok l (Nat.le_of_ble_eq_true e) (Nat.le_of_ble_eq_true e2)).wk ⟨?_, trivial⟩
            have := wk_deep x
            rw [hx, lstsOf_eq hl] at this
            exact this
      · cases h
    · cases h
  · cases h
def ey0 : Expr := ⟨4, [121], 0, [], []⟩
def e0 : Expr := ⟨13, [120], 0, [[70, 97, 108, 115, 101], [84, 114, 117, 101]], [⟨6, [43], 0, [], [ey0, ⟨1, [], 1, [], []⟩]⟩, ⟨1, [], 2, [], []⟩]⟩
theorem e0_ok : plOK e0 := by
  simp [plOK, plOKs, e0, ey0, rebuilts, rebuilt, plainTurn, armsOf, sample, samples, Expr.w, ws, lim]
def e0A : AV := e0.emb
def e0R : AV := (plainE e0).emb
def g44 : List AV → Option AV
  | [x] => cond (AV.beq x.deep e0A) (some e0R) none
  | _ => none
theorem g44_ok (args : List AV) (v : AV) (h : g44 args = some v) : Pure PG 44 args v := by
  unfold g44 at h
  split at h
  · rename_i x
    cases e : AV.beq x.deep e0A with
    | false => rw [e] at h; cases h
    | true =>
      rw [e] at h; cases h
      refine (plain44_ok e0 e0_ok).wk ⟨?_, trivial⟩
      have := wk_deep x
      rw [AV.beq_eq e] at this
      exact this
  · cases h
def g39 : List AV → Option AV
  | [x, f] => cond (AV.beq x (.str txt0)) (cond (AV.beq f (.fn (.func 40) [] [])) (some (.tup [prog0, .agg z3])) none) none
  | _ => none
theorem g39_ok (args : List AV) (v : AV) (h : g39 args = some v) : Pure PG 39 args v := by
  unfold g39 at h
  split at h
  · rename_i x f
    cases e : AV.beq x (.str txt0) with
    | false => rw [e] at h; cases h
    | true =>
      rw [e, cond_true] at h
      cases e2 : AV.beq f (.fn (.func 40) [] []) with
      | false => rw [e2] at h; cases h
      | true =>
        rw [e2] at h; cases h
        rw [AV.beq_eq e, AV.beq_eq e2]
        exact read_ok
  · cases h
def o9 (f : Nat) : Option (List AV → Option AV) := cond (Nat.beq f 24) (some g24) (cond (Nat.beq f 39) (some g39) (cond (Nat.beq f 44) (some g44) (cond (Nat.beq f 82) (some g82) (cond (Nat.beq f 111) (some g111) none))))
theorem o9_ok (f : Nat) (g : List AV → Option AV) (h : o9 f = some g) (args : List AV) (v : AV) (hv : g args = some v) : Pure PG f args v := by
  unfold o9 at h
  cases e1 : Nat.beq f 24 with
  | true => rw [e1] at h; cases h; have := Nat.eq_of_beq_eq_true e1; subst this; exact g24_ok _ _ hv
  | false =>
  rw [e1, cond_false] at h
  cases e2 : Nat.beq f 39 with
  | true => rw [e2] at h; cases h; have := Nat.eq_of_beq_eq_true e2; subst this; exact g39_ok _ _ hv
  | false =>
  rw [e2, cond_false] at h
  cases e3 : Nat.beq f 44 with
  | true => rw [e3] at h; cases h; have := Nat.eq_of_beq_eq_true e3; subst this; exact g44_ok _ _ hv
  | false =>
  rw [e3, cond_false] at h
  cases e4 : Nat.beq f 82 with
  | true => rw [e4] at h; cases h; have := Nat.eq_of_beq_eq_true e4; subst this; exact g82_ok _ _ hv
  | false =>
  rw [e4, cond_false] at h
  cases e5 : Nat.beq f 111 with
  | true => rw [e5] at h; cases h; have := Nat.eq_of_beq_eq_true e5; subst this; exact g111_ok _ _ hv
  | false => rw [e5] at h; cases h
theorem lives_run : runF 100 (envOf o9) 9 [] ⟨0, [], 0⟩ (finK (.bool true) 0 []) = some (.bool true, ⟨0, [], 0⟩) := by kernel_rfl
theorem lives_ok : Pure PG 9 [] (.bool true) := pure_of (bel_all rfl) (bel_sound rfl) (Det_run (envOf_ok o9_ok) 100 [] (bel_sound rfl) lives_run)
end Go.Sy
