/- Definitions: what the functions of the expressions compute, in plain Lean; no condition. -/
import Derived.Test.YtjfimhfnpbaicaaGreatDoorSd0
namespace Go.Sy
mutual
def sameE : Expr → Expr → Bool
  | ⟨op, name, n, cons, kids⟩, ⟨op', name', n', cons', kids'⟩ => op == op' && name == name' && n == n' && cons == cons' && sameEs kids kids'
def sameEs : List Expr → List Expr → Bool
  | [], [] => true
  | a :: l, b :: m => sameE a b && sameEs l m
  | _, _ => false
end
mutual
theorem sameE_iff : ∀ a b : Expr, sameE a b = true ↔ a = b
  | ⟨op, name, n, cons, kids⟩, ⟨op', name', n', cons', kids'⟩ => by
    simp only [sameE, Bool.and_eq_true, beq_iff_eq, sameEs_iff kids kids', Expr.mk.injEq, and_assoc]
theorem sameEs_iff : ∀ a b : List Expr, sameEs a b = true ↔ a = b
  | [], [] => by simp [sameEs]
  | a :: l, b :: m => by simp only [sameEs, Bool.and_eq_true, sameE_iff a b, sameEs_iff l m, List.cons.injEq]
  | [], b :: m => by simp [sameEs]
  | a :: l, [] => by simp [sameEs]
end
theorem sameE_refl (a : Expr) : sameE a a = true := (sameE_iff a a).2 rfl
theorem sameE_ne {a b : Expr} (h : a ≠ b) : sameE a b = false := by
  cases e : sameE a b with
  | false => rfl
  | true => exact absurd ((sameE_iff a b).1 e) h
mutual
def sample (x con : Bytes) : Expr → Expr
  | ⟨op, name, n, cons, kids⟩ => if op = 4 then ⟨11, x, 0, [con], [⟨op, name, n, cons, kids⟩]⟩ else ⟨op, name, n, cons, samples x con kids⟩
def samples (x con : Bytes) : List Expr → List Expr
  | [] => []
  | e :: l => sample x con e :: samples x con l
end
theorem samples_map (x con : Bytes) : ∀ l : List Expr, samples x con l = l.map (sample x con)
  | [] => rfl
  | e :: l => by rw [samples, samples_map x con l]; rfl
theorem sample_eq (x con : Bytes) (e : Expr) : sample x con e = if e.op = 4 then ⟨11, x, 0, [con], [e]⟩ else ⟨e.op, e.name, e.n, e.cons, e.kids.map (sample x con)⟩ := by
  obtain ⟨op, name, n, cons, kids⟩ := e
  rw [sample, samples_map]
mutual
def vars : Expr → Nat
  | ⟨op, _, _, _, kids⟩ => if op = 4 then 1 else varsL kids
def varsL : List Expr → Nat
  | [] => 0
  | e :: l => vars e + varsL l
end
theorem vars_eq (e : Expr) : vars e = if e.op = 4 then 1 else varsL e.kids := by
  obtain ⟨op, name, n, cons, kids⟩ := e
  rw [vars]
theorem varsL_app : ∀ l m : List Expr, varsL (l ++ m) = varsL l + varsL m
  | [], m => by simp [varsL]
  | e :: l, m => by simp only [List.cons_append, varsL, varsL_app l m]; omega
theorem varsL_take {l : List Expr} {i : Nat} (h : i < l.length) : varsL (l.take (i + 1)) = varsL (l.take i) + vars l[i] := by
  rw [← List.take_append_getElem h, varsL_app]; simp [varsL]
theorem varsL_le {l : List Expr} (i : Nat) : varsL (l.take i) ≤ varsL l := by
  have := varsL_app (l.take i) (l.drop i); rw [List.take_append_drop] at this; omega
theorem vars_le : ∀ e : Expr, vars e ≤ e.size := by
  refine Expr.ind fun e ih => ?_
  rw [vars_eq, Expr.size_eq]
  have : ∀ l : List Expr, (∀ k ∈ l, vars k ≤ k.size) → varsL l ≤ sizes l := by
    intro l
    induction l with
    | nil => intro _; exact Nat.le_refl _
    | cons k l ihl =>
      intro h
      have h1 := h k (by simp)
      have h2 := ihl fun x hx => h x (by simp [hx])
      simp only [varsL, sizes]; omega
  have := this e.kids ih
  split <;> omega
/-- it grows by one for each variable -/
theorem sample_size (x con : Bytes) : ∀ e : Expr, (sample x con e).size = e.size + vars e := by
  refine Expr.ind fun e ih => ?_
  rw [sample_eq, vars_eq]
  split
  · simp only [Expr.size_eq, sizes]; omega
  · rw [Expr.size_eq, Expr.size_eq e]
    simp only
    have : ∀ l : List Expr, (∀ k ∈ l, (sample x con k).size = k.size + vars k) → sizes (l.map (sample x con)) = sizes l + varsL l := by
      intro l
      induction l with
      | nil => intro _; rfl
      | cons k l ihl =>
        intro h
        simp only [List.map_cons, sizes, varsL, h k (by simp), ihl fun z hz => h z (by simp [hz])]
        omega
    rw [this _ ih]; omega
theorem sample_w (x con : Bytes) : ∀ e : Expr, (sample x con e).w ≤ 3 * e.w := by
  refine Expr.ind fun e ih => ?_
  rw [sample_eq]
  split
  · have := w_pos e; simp only [Expr.w_eq, ws, List.length_cons, List.length_nil] at *; omega
  · rw [Expr.w_eq, Expr.w_eq e]
    simp only
    have : ∀ l : List Expr, (∀ k ∈ l, (sample x con k).w ≤ 3 * k.w) → ws (l.map (sample x con)) ≤ 3 * ws l := by
      intro l
      induction l with
      | nil => intro _; exact Nat.le_refl _
      | cons k l ihl =>
        intro h
        have h1 := h k (by simp)
        have h2 := ihl fun z hz => h z (by simp [hz])
        simp only [List.map_cons, ws]; omega
    have := this _ ih
    omega

mutual
def rebuilt (F : Expr → Expr) : Expr → Expr
  | ⟨op, name, n, cons, kids⟩ => F ⟨op, name, n, cons, rebuilts F kids⟩
def rebuilts (F : Expr → Expr) : List Expr → List Expr
  | [] => []
  | e :: l => rebuilt F e :: rebuilts F l
end
theorem rebuilts_map (F : Expr → Expr) : ∀ l : List Expr, rebuilts F l = l.map (rebuilt F)
  | [] => rfl
  | e :: l => by rw [rebuilts, rebuilts_map F l]; rfl
theorem rebuilt_eq (F : Expr → Expr) (e : Expr) : rebuilt F e = F ⟨e.op, e.name, e.n, e.cons, e.kids.map (rebuilt F)⟩ := by
  obtain ⟨op, name, n, cons, kids⟩ := e
  rw [rebuilt, rebuilts_map]
mutual
def rbOK (F : Expr → Expr) : Expr → Prop
  | ⟨op, name, n, cons, kids⟩ => (⟨op, name, n, cons, rebuilts F kids⟩ : Expr).w ≤ lim ∧ rbOKs F kids
def rbOKs (F : Expr → Expr) : List Expr → Prop
  | [] => True
  | e :: l => rbOK F e ∧ rbOKs F l
end
theorem rbOKs_iff (F : Expr → Expr) : ∀ l : List Expr, rbOKs F l ↔ ∀ k ∈ l, rbOK F k
  | [] => by simp [rbOKs]
  | e :: l => by simp only [rbOKs, rbOKs_iff F l, List.mem_cons, forall_eq_or_imp]
theorem rbOK_eq (F : Expr → Expr) (e : Expr) : rbOK F e ↔ (⟨e.op, e.name, e.n, e.cons, e.kids.map (rebuilt F)⟩ : Expr).w ≤ lim ∧ ∀ k ∈ e.kids, rbOK F k := by
  obtain ⟨op, name, n, cons, kids⟩ := e
  rw [rbOK, rebuilts_map, rbOKs_iff]
theorem rebuilt_id : ∀ e : Expr, rebuilt id e = e := by
  refine Expr.ind fun e ih => ?_
  rw [rebuilt_eq]
  have : e.kids.map (rebuilt id) = e.kids := by
    refine (List.map_congr_left ih).trans ?_
    simp
  rw [this]; cases e; rfl
theorem rbOK_id : ∀ e : Expr, e.w ≤ lim → rbOK id e := by
  refine Expr.ind fun e ih h => ?_
  rw [rbOK_eq]
  have : e.kids.map (rebuilt id) = e.kids := by
    refine (List.map_congr_left fun k _ => rebuilt_id k).trans ?_
    simp
  rw [this]
  refine ⟨by cases e; exact h, fun k hk => ih k hk ?_⟩
  have := w_mem hk
  rw [Expr.w_eq] at h
  omega
end Go.Sy
