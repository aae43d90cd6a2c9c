/- Definitions and lemmas: what sugar.plain computes, in plain Lean; rows of expressions as cells; no condition. -/
import Derived.Test.YtjfimhfnpbaicaaGreatDoorSd1
namespace Go.Sy
set_option linter.unusedSimpArgs false
/-- the arms of a match, each sampled by its constructor -/
def armsOf (x : Bytes) : List Bytes → List Expr → List Expr
  | c :: cs, k :: ks => sample x c k :: armsOf x cs ks
  | _, ks => ks
def plainTurn (e : Expr) : Expr := if e.op = 13 then ⟨12, e.name, e.n, e.cons, armsOf e.name e.cons e.kids⟩ else e
def plainE (e : Expr) : Expr := rebuilt plainTurn e
mutual
def plOK : Expr → Prop
  | ⟨op, name, n, cons, kids⟩ => 3 * (⟨op, name, n, cons, rebuilts plainTurn kids⟩ : Expr).w ≤ lim ∧ (op = 13 → kids.length ≤ cons.length) ∧ plOKs kids
def plOKs : List Expr → Prop
  | [] => True
  | e :: l => plOK e ∧ plOKs l
end
theorem plOKs_iff : ∀ l : List Expr, plOKs l ↔ ∀ k ∈ l, plOK k
  | [] => by simp [plOKs]
  | e :: l => by rw [plOKs, plOKs_iff l]; simp
theorem plOK_eq (e : Expr) : plOK e ↔ 3 * (⟨e.op, e.name, e.n, e.cons, e.kids.map plainE⟩ : Expr).w ≤ lim ∧ (e.op = 13 → e.kids.length ≤ e.cons.length) ∧ ∀ k ∈ e.kids, plOK k := by
  obtain ⟨op, name, n, cons, kids⟩ := e
  rw [plOK, rebuilts_map, plOKs_iff]
  rfl
theorem plainE_eq (e : Expr) : plainE e = plainTurn ⟨e.op, e.name, e.n, e.cons, e.kids.map plainE⟩ := rebuilt_eq plainTurn e
theorem armsOf_length (x : Bytes) : ∀ (cs : List Bytes) (ks : List Expr), (armsOf x cs ks).length = ks.length
  | [], ks => by simp [armsOf]
  | c :: cs, [] => by simp [armsOf]
  | c :: cs, k :: ks => by simp [armsOf, armsOf_length x cs ks]
theorem armsOf_get (x : Bytes) : ∀ (cs : List Bytes) (ks : List Expr) (i : Nat) (h : i < ks.length) (hc : i < cs.length), (armsOf x cs ks)[i]? = some (sample x cs[i] ks[i])
  | c :: cs, k :: ks, 0, _, _ => by simp [armsOf]
  | c :: cs, k :: ks, i + 1, h, hc => by
    simp only [armsOf, List.getElem?_cons_succ, List.getElem_cons_succ]
    exact armsOf_get x cs ks i (by simpa using h) (by simpa using hc)
/-- expressions as cells -/
def fe (l : List Expr) : List AV := (l.map Expr.emb).flatMap AV.cells
theorem fe_append (l m : List Expr) : fe (l ++ m) = fe l ++ fe m := by simp [fe]
theorem fe_length (l : List Expr) : (fe l).length = l.length * 5 := by
  induction l with
  | nil => rfl
  | cons e l ih =>
    have : fe (e :: l) = e.emb.cells ++ fe l := by simp [fe]
    rw [this, List.length_append, ih, emb_cells, List.length_cons]; omega
/-- the row when so many have been turned -/
def rowOf (A K : List Expr) (rest : List AV) (i : Nat) : List AV := fe (A.take i ++ K.drop i) ++ rest
theorem rowOf_split (A K : List Expr) (rest : List AV) {i : Nat} (hi : i < K.length) : rowOf A K rest i = fe (A.take i) ++ (K[i].emb.cells ++ (fe (K.drop (i + 1)) ++ rest)) := by
  have h1 : K.drop i = K[i] :: K.drop (i + 1) := List.drop_eq_getElem_cons hi
  have h2 : ∀ (a : Expr) (l : List Expr), fe (a :: l) = a.emb.cells ++ fe l := fun a l => by simp [fe]
  rw [rowOf, fe_append, h1, h2, List.append_assoc, List.append_assoc]
theorem rowOf_len (A K : List Expr) (rest : List AV) {i : Nat} (hi : i < K.length) (hA : A.length = K.length) : i * 5 + 5 ≤ (rowOf A K rest i).length := by
  rw [rowOf_split A K rest hi]
  simp only [List.length_append, fe_length, List.length_take, emb_cells]
  omega
theorem rowOf_load (A K : List Expr) (rest : List AV) {i : Nat} (hi : i < K.length) (hA : A.length = K.length) : List.take 5 (List.drop (i * 5) (rowOf A K rest i)) = K[i].emb.cells := by
  rw [rowOf_split A K rest hi, List.drop_left' (by rw [fe_length, List.length_take]; congr 1; omega), List.take_left' (emb_cells _)]
theorem rowOf_store (A K : List Expr) (rest : List AV) {i : Nat} (hi : i < K.length) (hA : A.length = K.length) {a : Expr} (ha : A[i]? = some a) :
    List.take (i * 5) (rowOf A K rest i) ++ a.emb.cells ++ List.drop (i * 5 + 5) (rowOf A K rest i) = rowOf A K rest (i + 1) := by
  have hl : (fe (A.take i)).length = i * 5 := by rw [fe_length, List.length_take]; congr 1; omega
  have hd : List.drop (i * 5 + 5) (rowOf A K rest i) = fe (K.drop (i + 1)) ++ rest := by
    rw [rowOf_split A K rest hi, ← List.drop_drop, List.drop_left' hl, List.drop_left' (emb_cells _)]
  have ht : A.take (i + 1) = A.take i ++ [a] := by
    rw [List.take_add_one, ha]; rfl
  rw [hd, rowOf_split A K rest hi, List.take_left' hl, rowOf, ht, fe_append, fe_append]
  have : fe [a] = a.emb.cells := by simp [fe]
  rw [this]
  simp only [List.append_assoc]
theorem fe_flat (l : List Expr) : (fe l).all AV.flat1 = true := by
  rw [List.all_eq_true]
  intro x hx
  obtain ⟨y, hy, hx⟩ := List.mem_flatMap.1 hx
  obtain ⟨e, _, rfl⟩ := List.mem_map.1 hy
  have := emb_flat e
  rw [Expr.emb_eq] at this hx
  exact List.all_eq_true.1 this x hx
theorem rowOf_flat (A K : List Expr) {rest : List AV} (hr : rest.all AV.flat1 = true) (i : Nat) : (rowOf A K rest i).all AV.flat1 = true := by
  rw [rowOf, List.all_append, fe_flat, hr]; rfl
theorem rowOf_0 (A K : List Expr) (rest : List AV) : rowOf A K rest 0 = fe K ++ rest := by simp [rowOf]
theorem rowOf_n (A K : List Expr) (rest : List AV) (hA : A.length = K.length) : rowOf A K rest K.length = fe A ++ rest := by
  have h : A.take K.length = A := by rw [← hA]; exact List.take_length
  rw [rowOf, List.drop_length, List.append_nil, h]
end Go.Sy
