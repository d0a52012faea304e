/- Rows of cells: slices of structs, whatever their cells. No condition. -/
import Derived.Test.YtngpfjmifaecjaaKt
import Derived.Test.YtngpfjmifaecjaaEqCells
import Derived.Deep.MidRow
import Derived.Deep.AppendLies
import Derived.OwnWalk
namespace Go.Proofs.Ytngpfjmifaecjaa
open Go.RowKit
/-- rows of k cells each lie at A -/
def RowsAt (w : World) (k : Nat) (A : Option Addr) (rows : List (List Value)) : Prop :=
  (∀ r ∈ rows, r.length = k) ∧ (rows = [] ∨ ∃ g off, A = some ⟨g, off, none⟩ ∧ ∀ (i : Nat) r, rows[i]? = some r → w.rangeAt g (off + i * k) r)
def fitsAll (ks : List Leaf) (rows : List (List Value)) : Prop := ∀ r ∈ rows, fits ks r
def eqRows : List (List Value) → List (List Value) → Bool
  | [], [] => true
  | x :: xs, y :: ys => eqCells x y && eqRows xs ys
  | _, _ => false
theorem fitsAll_nil (ks : List Leaf) : fitsAll ks [] := fun r h => by cases h
theorem fitsAll_cons {ks : List Leaf} {r : List Value} {l : List (List Value)} (h : fits ks r) (t : fitsAll ks l) : fitsAll ks (r :: l) := fun x hx => by
  rcases List.mem_cons.1 hx with rfl | hx
  · exact h
  · exact t x hx
theorem fitsAll_snoc {ks : List Leaf} {r : List Value} {l : List (List Value)} (t : fitsAll ks l) (h : fits ks r) : fitsAll ks (l ++ [r]) := fun x hx => by
  rcases List.mem_append.1 hx with hx | hx
  · exact t x hx
  · rw [List.mem_singleton.1 hx]
    exact h
theorem fitsAll_get {ks : List Leaf} {l : List (List Value)} (t : fitsAll ks l) {i : Nat} {r : List Value} (h : l[i]? = some r) : fits ks r := t r (List.mem_of_getElem? h)
theorem fitsAll_len {ks : List Leaf} {l : List (List Value)} (t : fitsAll ks l) : ∀ r ∈ l, r.length = ks.length := fun r h => fits_length (t r h)
theorem eqRows_self {ks : List Leaf} : ∀ {l : List (List Value)}, fitsAll ks l → eqRows l l = true
  | [], _ => rfl
  | r :: l, h => by
    unfold eqRows
    rw [eqCells_self (h r (List.mem_cons_self ..)), eqRows_self (fun x hx => h x (List.mem_cons_of_mem _ hx))]
    rfl
theorem eqRows_iff {ks : List Leaf} : ∀ {l m : List (List Value)}, fitsAll ks l → fitsAll ks m → (eqRows l m = true ↔ l = m)
  | [], [], _, _ => by simp [eqRows]
  | [], _ :: _, _, _ => by simp [eqRows]
  | _ :: _, [], _, _ => by simp [eqRows]
  | x :: l, y :: m, h, h' => by
    simp only [eqRows, Bool.and_eq_true, List.cons.injEq]
    rw [eqCells_iff (h x (List.mem_cons_self ..)) (h' y (List.mem_cons_self ..)), eqRows_iff (fun x hx => h x (List.mem_cons_of_mem _ hx)) (fun x hx => h' x (List.mem_cons_of_mem _ hx))]
theorem eqRows_len : ∀ {l m : List (List Value)}, eqRows l m = true → l.length = m.length
  | [], [], _ => rfl
  | [], _ :: _, h => by simp [eqRows] at h
  | _ :: _, [], h => by simp [eqRows] at h
  | x :: l, y :: m, h => by
    simp only [eqRows, Bool.and_eq_true] at h
    simp [eqRows_len h.2]
theorem eqRows_drop {l m : List (List Value)} {i : Nat} {x y : List Value} (hx : l[i]? = some x) (hy : m[i]? = some y) : eqRows (l.drop i) (m.drop i) = (eqCells x y && eqRows (l.drop (i + 1)) (m.drop (i + 1))) := by
  obtain ⟨h1, e1⟩ := List.getElem?_eq_some_iff.1 hx
  obtain ⟨h2, e2⟩ := List.getElem?_eq_some_iff.1 hy
  rw [List.drop_eq_getElem_cons h1, List.drop_eq_getElem_cons h2, eqRows, e1, e2]
theorem RowsAt.nil (w : World) (k : Nat) (A : Option Addr) : RowsAt w k A [] := ⟨(fun r h => by cases h), .inl rfl⟩
theorem RowsAt.get {w : World} {k : Nat} {A : Option Addr} {rows : List (List Value)} (h : RowsAt w k A rows) {i : Nat} {r : List Value} (hr : rows[i]? = some r) : ∃ g off, A = some ⟨g, off, none⟩ ∧ w.rangeAt g (off + i * k) r := by
  rcases h.2 with rfl | ⟨g, off, hA, hc⟩
  · simp at hr
  · exact ⟨g, off, hA, hc i r hr⟩
theorem RowsAt.at {w : World} {k g off : Nat} {rows : List (List Value)} (h : RowsAt w k (some ⟨g, off, none⟩) rows) {i : Nat} {r : List Value} (hr : rows[i]? = some r) : w.rangeAt g (off + i * k) r := by
  obtain ⟨g', off', hA, hc⟩ := h.get hr
  cases hA
  exact hc
theorem rangeAt_kept {S : Nat → Prop} {w w' : World} {g o : Nat} {cs : List Value} (h : w.rangeAt g o cs) (hk : Kept S w w') (hn : ¬ S g) : w'.rangeAt g o cs := fun j v hv => hk.cell (h j v hv) hn
theorem RowsAt.kept {w w' : World} {k : Nat} {A : Option Addr} {rows : List (List Value)} (h : RowsAt w k A rows) (hk : Kept noB w w') : RowsAt w' k A rows := by
  rcases h with ⟨h1, h2⟩
  refine ⟨h1, ?_⟩
  rcases h2 with h2 | ⟨g, off, hA, hc⟩
  · exact .inl h2
  · exact .inr ⟨g, off, hA, fun i r hr => rangeAt_kept (hc i r hr) hk (fun e => e)⟩
theorem RowsAt.keptS {S : Nat → Prop} {w w' : World} {k : Nat} {A : Option Addr} {rows : List (List Value)} (h : RowsAt w k A rows) (hk : Kept S w w') (hn : ∀ a, A = some a → ¬ S a.block) : RowsAt w' k A rows := by
  rcases h with ⟨h1, h2⟩
  refine ⟨h1, ?_⟩
  rcases h2 with h2 | ⟨g, off, hA, hc⟩
  · exact .inl h2
  · exact .inr ⟨g, off, hA, fun i r hr => rangeAt_kept (hc i r hr) hk (hn _ hA)⟩
theorem flat_at {k : Nat} : ∀ {rows : List (List Value)}, (∀ r ∈ rows, r.length = k) → ∀ {i : Nat} {r : List Value}, rows[i]? = some r → ∀ {j : Nat} {v : Value}, r[j]? = some v → rows.flatten[i * k + j]? = some v
  | [], _, i, r, hr, j, v, hv => by simp at hr
  | x :: l, h, 0, r, hr, j, v, hv => by
    simp at hr
    subst hr
    obtain ⟨hj, _⟩ := List.getElem?_eq_some_iff.1 hv
    rw [List.flatten_cons, Nat.zero_mul, Nat.zero_add, List.getElem?_append_left hj]
    exact hv
  | x :: l, h, i + 1, r, hr, j, v, hv => by
    have hx : x.length = k := h x (List.mem_cons_self ..)
    have := flat_at (fun r hr => h r (List.mem_cons_of_mem _ hr)) (i := i) (by simpa using hr) hv
    rw [List.flatten_cons, List.getElem?_append_right (by rw [hx, Nat.succ_mul]; omega), hx, Nat.succ_mul, show i * k + k + j - k = i * k + j by omega]
    exact this
theorem flat_len {k : Nat} : ∀ {rows : List (List Value)}, (∀ r ∈ rows, r.length = k) → rows.flatten.length = rows.length * k
  | [], _ => by simp
  | x :: l, h => by
    rw [List.flatten_cons, List.length_append, h x (List.mem_cons_self ..), flat_len (fun r hr => h r (List.mem_cons_of_mem _ hr)), List.length_cons, Nat.succ_mul, Nat.add_comm]
/-- what is owned lies there -/
theorem owns_rows {w : World} {base : Nat} {T : TypeId} {k : Nat} {v : Value} {rows : List (List Value)} (h : w.ownsRow base T k v rows.length rows.flatten) (hl : ∀ r ∈ rows, r.length = k) : ∃ A cap, v = .slice A rows.length cap ∧ RowsAt w k A rows ∧ (∀ a, A = some a → base ≤ a.block ∧ a.block < w.heap.size) := by
  rcases h.2 with ⟨hv, hn⟩ | ⟨g, cap, cur, hv, hb, hg, hle, hm, hsz, ht⟩
  · have e : rows = [] := List.length_eq_zero_iff.1 hn
    subst e
    exact ⟨none, 0, hv, .nil _ _ _, fun a ha => by cases ha⟩
  · refine ⟨_, cap, hv, ⟨hl, .inr ⟨g, 0, rfl, fun i r hr j u hj => ?_⟩⟩, fun a ha => ?_⟩
    · have hf := flat_at hl hr hj
      have := h.cells (g := g) (by rw [hv]; rfl) _ u hf
      rw [Addr.add_mid] at this
      rw [show 0 + i * k + j = 0 + (i * k + j) by omega]
      exact this
    · cases ha
      exact ⟨hb, (Array.getElem?_eq_some_iff.1 hg).1⟩
theorem owns_le {w : World} {base : Nat} {T : TypeId} {k : Nat} {v : Value} {n : Nat} {xs : List Value} (h : w.ownsRow base T k v n xs) : n ≤ maxLen := by
  rcases h.2 with ⟨_, hn⟩ | ⟨g, cap, cur, _, _, _, hle, hm, _, _⟩
  · rw [hn]; exact Nat.zero_le _
  · omega
theorem owns_kept {w w' : World} {base : Nat} {T : TypeId} {k : Nat} {v : Value} {n : Nat} {xs : List Value} (h : w.ownsRow base T k v n xs) (hk : Kept noB w w') : w'.ownsRow base T k v n xs := by
  refine h.kept (row := none) ⟨hk.os, hk.tape, hk.output, hk.size, fun k hl _ => hk.block k hl (fun e => e)⟩ ?_
  cases hv : v.ownBlock with
  | none => exact .inl rfl
  | some b => exact .inr (by simp)
/-- .. where a row below it is turned -/
theorem owns_keptB {w w' : World} {base g : Nat} {T : TypeId} {k : Nat} {v : Value} {n : Nat} {xs : List Value} (h : w.ownsRow base T k v n xs) (hk : Kept (oneB g) w w') (hg : g < base) : w'.ownsRow base T k v n xs := by
  refine h.kept (row := some g) ⟨hk.os, hk.tape, hk.output, hk.size, fun k hl hne => hk.block k hl (fun e => hne (by have e' : k = g := e; rw [e']))⟩ ?_
  cases hv : v.ownBlock with
  | none => exact .inl rfl
  | some b =>
    refine .inr (fun e => ?_)
    have := (h.lt b hv).1
    cases e
    omega
theorem one_fits {ks : List Leaf} : ∀ {cs : List Value}, fits ks cs → ∀ u ∈ cs, u.oneCell' = true := by
  induction ks with
  | nil =>
    intro cs h u hu
    match cs, h with
    | [], _ => cases hu
  | cons k ks ih =>
    intro cs h u hu
    match cs, h with
    | c :: cs, h =>
      rcases List.mem_cons.1 hu with rfl | hu
      · have h1 := h.1
        cases k <;> obtain ⟨x, rfl⟩ := h1 <;> rfl
      · exact ih h.2 u hu
theorem owns_base {w : World} {b b' : Nat} {T : TypeId} {k : Nat} {v : Value} {n : Nat} {xs : List Value} (h : w.ownsRow b T k v n xs) (hb : b' ≤ b) : w.ownsRow b' T k v n xs := by
  refine ⟨h.1, ?_⟩
  rcases h.2 with h | ⟨g, cap, cur, h1, h2, h3⟩
  · exact .inl h
  · exact .inr ⟨g, cap, cur, h1, Nat.le_trans hb h2, h3⟩
theorem owns_form {w : World} {b : Nat} {T : TypeId} {k : Nat} {v : Value} {n : Nat} {xs : List Value} (h : w.ownsRow b T k v n xs) : v = .slice none 0 0 ∨ ∃ g cap, v = .slice (some ⟨g, 0, none⟩) n cap := by
  rcases h.2 with h | ⟨g, cap, cur, h1, h2, h3⟩
  · exact .inl h.1
  · exact .inr ⟨g, cap, h1⟩
/-! ### guarded operations of a plain region -/
section
variable {P : Program} {ops : Array Oper} {rest : List Oper} {o : Oper} {a : Act} {w : World} {Q : Exit → Act → World → Prop}
theorem wpList_load_midG (hw : Region.wanted o (yielded ops a.tmps) = true) (ty : TypeId) (x : Operand) (ho : o.op = .load ty x)
    (b off : Nat) (hx : a.eval x = .pointer (some ⟨b, off, none⟩)) (cs : List Value) (d : TypeDesc) (hc : w.rangeAt b off cs)
    (hu : P.underlying ty = some d) (hd : d.isRow = true) (hi : (P.info? ty).map (·.size) = some cs.length)
    (h : wpList P ops Q rest (a.put o.dst (.agg cs.toArray)) w) : wpList P ops Q (o :: rest) a w :=
  BigFrame.wpList_want hw fun _ hK => wp_load_mid ty x ho b off hx cs d hc hu hd hi (hK _ _ h)
theorem wpList_eql_cellsG (hw : Region.wanted o (yielded ops a.tmps) = true) (t : TypeId) (x y : Operand) (yt : TypeId) (ho : o.op = .binOp .eql t x y yt)
    (xs ys : List Value) (hx : a.eval x = .agg xs.toArray) (hy : a.eval y = .agg ys.toArray) {m : Nat} {ks : List Leaf} (h : leavesOf P m t = some ks) (hm : m ≤ 10000) (ha : aggT P t = true) (hg : P.eqGuardType P.depth t = false)
    (fx : fits ks xs) (fy : fits ks ys) (hK : wpList P ops Q rest (a.put o.dst (.bool (eqCells xs ys))) w) : wpList P ops Q (o :: rest) a w :=
  BigFrame.wpList_want hw fun _ hK' => by
    have hr : (execOp a.eval o).run P w = .ok (.value (.bool (eqCells xs ys))) w := by
      unfold execOp
      simp only [ho, hx, hy, Sem.run_bind, run_eqGuard_agg w .eql t x y xs.toArray ys.toArray hg, Result.andThen_ok, run_eql_leaves h hm ha xs ys fx fy w, Sem.run_pure]
    unfold Oper.wp
    rw [hr]
    exact hK' _ _ hK
theorem wpList_neq_cellsG (hw : Region.wanted o (yielded ops a.tmps) = true) (t : TypeId) (x y : Operand) (yt : TypeId) (ho : o.op = .binOp .neq t x y yt)
    (xs ys : List Value) (hx : a.eval x = .agg xs.toArray) (hy : a.eval y = .agg ys.toArray) {m : Nat} {ks : List Leaf} (h : leavesOf P m t = some ks) (hm : m ≤ 10000) (ha : aggT P t = true) (hg : P.eqGuardType P.depth t = false)
    (fx : fits ks xs) (fy : fits ks ys) (hK : wpList P ops Q rest (a.put o.dst (.bool (!eqCells xs ys))) w) : wpList P ops Q (o :: rest) a w :=
  BigFrame.wpList_want hw fun _ hK' => by
    have hr : (execOp a.eval o).run P w = .ok (.value (.bool (!eqCells xs ys))) w := by
      unfold execOp
      simp only [ho, hx, hy, Sem.run_bind, run_eqGuard_agg w .neq t x y xs.toArray ys.toArray hg, Result.andThen_ok, run_neq_leaves h hm ha xs ys fx fy w, Sem.run_pure]
    unfold Oper.wp
    rw [hr]
    exact hK' _ _ hK
end
end Go.Proofs.Ytngpfjmifaecjaa
