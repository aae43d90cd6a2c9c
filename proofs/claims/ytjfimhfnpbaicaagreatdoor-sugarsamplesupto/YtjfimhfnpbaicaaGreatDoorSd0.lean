/- Definitions: the program's trees as Lean data, and how they stand as abstract values; no condition. -/
import Derived.Test.YtjfimhfnpbaicaaGreatDoorSy27
namespace Go.Sy
set_option linter.unusedSimpArgs false
set_option linter.unusedVariables false
abbrev Bytes := List UInt8
structure Expr where
  op : Int
  name : Bytes
  n : Int
  cons : List Bytes
  kids : List Expr
theorem Expr.ind {M : Expr → Prop} (h : ∀ e, (∀ k ∈ e.kids, M k) → M e) : ∀ e, M e
  | ⟨op, name, n, cons, kids⟩ => h _ fun k hk => Expr.ind h k
termination_by e => SizeOf.sizeOf e
decreasing_by
  have := List.sizeOf_lt_of_mem hk
  simp only at this
  simp only [Expr.mk.sizeOf_spec]
  omega
def strs (l : List Bytes) : AV := .sl .fro (l.map .str)
mutual
def Expr.emb : Expr → AV
  | ⟨op, name, n, cons, kids⟩ => .agg [.int .i64 op, .str name, .int .i64 n, strs cons, .sl .fro (embs kids)]
def embs : List Expr → List AV
  | [] => []
  | e :: l => e.emb :: embs l
end
theorem embs_map : ∀ l : List Expr, embs l = l.map Expr.emb
  | [] => rfl
  | e :: l => by rw [embs, embs_map l]; rfl
def exprs (l : List Expr) : AV := .sl .fro (l.map Expr.emb)
theorem Expr.emb_eq (e : Expr) : e.emb = .agg [.int .i64 e.op, .str e.name, .int .i64 e.n, strs e.cons, exprs e.kids] := by
  obtain ⟨op, name, n, cons, kids⟩ := e
  rw [Expr.emb, embs_map]; rfl
mutual
def Expr.size : Expr → Nat
  | ⟨_, _, _, _, kids⟩ => 1 + sizes kids
def sizes : List Expr → Nat
  | [] => 0
  | e :: l => e.size + sizes l
end
theorem Expr.size_eq (e : Expr) : e.size = 1 + sizes e.kids := by obtain ⟨op, name, n, cons, kids⟩ := e; rfl
theorem emb_bel (n : Nat) (e : Expr) : Bel n e.emb := by rw [Expr.emb_eq]; exact bel_sound rfl
attribute [go_sem] exprs strs
theorem emb_flat (e : Expr) : e.emb.flat = true := by rw [Expr.emb_eq]; rfl
theorem emb_cells (e : Expr) : e.emb.cells.length = 5 := by rw [Expr.emb_eq]; rfl
theorem el_embs (l : List Expr) : elSize 5 (l.map Expr.emb) = true := elSize_map emb_cells l
theorem el_strs (l : List Bytes) : elSize 1 (l.map AV.str) = true := elSize_map (f := AV.str) (n := 1) (fun _ => rfl) l
theorem emb_ones (e : Expr) : e.emb.cells.all AV.one = true := by rw [Expr.emb_eq]; rfl
theorem ones_embs (l : List Expr) : (l.map Expr.emb).all (fun y => y.cells.all AV.one) = true := ones_map emb_ones l
theorem ones_strs (l : List Bytes) : (l.map AV.str).all (fun y => y.cells.all AV.one) = true := ones_map (f := AV.str) (fun _ => rfl) l
def lim : Nat := 1099511627776
theorem sizes_app : ∀ l m : List Expr, sizes (l ++ m) = sizes l + sizes m
  | [], m => by simp [sizes]
  | e :: l, m => by simp only [List.cons_append, sizes, sizes_app l m]; omega
theorem sizes_take {l : List Expr} {i : Nat} (h : i < l.length) : sizes (l.take (i + 1)) = sizes (l.take i) + l[i].size := by
  rw [← List.take_append_getElem h, sizes_app]; simp [sizes]
theorem sizes_le {l : List Expr} (i : Nat) : sizes (l.take i) ≤ sizes l := by
  have := sizes_app (l.take i) (l.drop i); rw [List.take_append_drop] at this; omega
mutual
def Expr.w : Expr → Nat
  | ⟨_, _, _, cons, kids⟩ => 1 + cons.length + ws kids
def ws : List Expr → Nat
  | [] => 0
  | e :: l => e.w + ws l
end
theorem Expr.w_eq (e : Expr) : e.w = 1 + e.cons.length + ws e.kids := by obtain ⟨op, name, n, cons, kids⟩ := e; rfl
theorem w_pos (e : Expr) : 1 ≤ e.w := by rw [Expr.w_eq]; omega
theorem ws_app : ∀ l m : List Expr, ws (l ++ m) = ws l + ws m
  | [], m => by simp [ws]
  | e :: l, m => by simp only [List.cons_append, ws, ws_app l m]; omega
theorem ws_take {l : List Expr} {i : Nat} (h : i < l.length) : ws (l.take (i + 1)) = ws (l.take i) + l[i].w := by
  rw [← List.take_append_getElem h, ws_app]; simp [ws]
theorem ws_le {l : List Expr} (i : Nat) : ws (l.take i) ≤ ws l := by
  have := ws_app (l.take i) (l.drop i); rw [List.take_append_drop] at this; omega
theorem length_ws : ∀ l : List Expr, l.length ≤ ws l
  | [] => by simp
  | e :: l => by have := length_ws l; have := w_pos e; simp only [List.length_cons, ws]; omega
theorem w_kid {l : List Expr} {i : Nat} (h : i < l.length) : l[i].w ≤ ws l := by
  have := ws_take h; have := ws_le (l := l) (i + 1); omega
theorem w_mem {l : List Expr} {e : Expr} (h : e ∈ l) : e.w ≤ ws l := by
  obtain ⟨i, hi, rfl⟩ := List.getElem_of_mem h; exact w_kid hi
theorem Expr.size_le : ∀ e : Expr, e.size ≤ e.w := by
  refine Expr.ind fun e ih => ?_
  rw [Expr.size_eq, Expr.w_eq]
  have : ∀ l : List Expr, (∀ k ∈ l, k.size ≤ k.w) → sizes l ≤ ws l := by
    intro l
    induction l with
    | nil => intro _; exact Nat.le_refl _
    | cons k l ihl =>
      intro h
      have h1 := h k (by simp)
      have h2 := ihl fun x hx => h x (by simp [hx])
      simp only [sizes, ws]; omega
  have := this e.kids ih
  omega
theorem size_pos (e : Expr) : 1 ≤ e.size := by rw [Expr.size_eq]; omega
theorem length_sizes : ∀ l : List Expr, l.length ≤ sizes l
  | [] => by simp
  | e :: l => by have := length_sizes l; have := size_pos e; simp only [List.length_cons, sizes]; omega
end Go.Sy
