/- Rows of cells that are written: a row, a few cells. No condition. -/
import Derived.Test.YtngpfjmifaecjaaRowsW
import Derived.Test.YtngpfjmifaecjaaRegInv
namespace Go.Proofs.Ytngpfjmifaecjaa
open Go.RowKit
/-- a list with other elements from o on -/
def laidL (o : Nat) (vs cs : List Value) : List Value := cs.take o ++ vs ++ cs.drop (o + vs.length)
theorem laidL_nil (o : Nat) (cs : List Value) : laidL o [] cs = cs := by simp [laidL]
theorem laidL_cons {o : Nat} {v : Value} {vs cs : List Value} (h : o < cs.length) : laidL (o + 1) vs (cs.set o v) = laidL o (v :: vs) cs := by
  unfold laidL
  rw [List.take_succ_eq_append_getElem (by simpa using h), List.getElem_set_self, List.take_set_of_le (by omega), List.drop_set_of_lt (by omega), List.length_cons, show o + 1 + vs.length = o + (vs.length + 1) by omega]
  simp
theorem laidL_len {o : Nat} {vs cs : List Value} (h : o + vs.length ≤ cs.length) : (laidL o vs cs).length = cs.length := by
  unfold laidL
  simp
  omega
theorem heap_setCells (g : Nat) (T : TypeId) : ∀ (vs : List Value) (o : Nat) (w : World) (cs : List Value), w.heap[g]? = some (.cells cs.toArray T (0, 0)) → o + vs.length ≤ cs.length → (w.setCells g o vs).heap[g]? = some (.cells (laidL o vs cs).toArray T (0, 0))
  | [], o, w, cs, h, _ => by rw [laidL_nil]; exact h
  | v :: vs, o, w, cs, h, hl => by
    rw [List.length_cons] at hl
    have h' := heap_setCell_same w g o cs.toArray T v h
    rw [List.setIfInBounds_toArray] at h'
    have := heap_setCells g T vs (o + 1) (w.setCell ⟨g, o, none⟩ v) (cs.set o v) h' (by simp; omega)
    rw [laidL_cons (by omega)] at this
    exact this
theorem heap_setCells_far (g : Nat) : ∀ (vs : List Value) (o : Nat) (w : World) (k : Nat), k ≠ g → (w.setCells g o vs).heap[k]? = w.heap[k]?
  | [], _, _, _, _ => rfl
  | v :: vs, o, w, k, h => by
    rw [World.setCells, heap_setCells_far g vs (o + 1) _ k h]
    exact Below.heap_setCell _ _ _ _ h
theorem size_setCells (g : Nat) : ∀ (vs : List Value) (o : Nat) (w : World), (w.setCells g o vs).heap.size = w.heap.size
  | [], _, _ => rfl
  | v :: vs, o, w => by
    rw [World.setCells, size_setCells g vs (o + 1)]
    simp [World.setCell]
theorem rest_setCells (g : Nat) : ∀ (vs : List Value) (o : Nat) (w : World), (w.setCells g o vs).os = w.os ∧ (w.setCells g o vs).tape = w.tape ∧ (w.setCells g o vs).output = w.output
  | [], _, _ => ⟨rfl, rfl, rfl⟩
  | v :: vs, o, w => by
    rw [World.setCells]
    exact rest_setCells g vs (o + 1) _
theorem Kept.setCells (w : World) (g o : Nat) (vs : List Value) : Kept (oneB g) w (w.setCells g o vs) := by
  obtain ⟨h1, h2, h3⟩ := rest_setCells g vs o w
  exact ⟨h1, h2, h3, by rw [size_setCells]; exact Nat.le_refl _, fun k _ hn => heap_setCells_far g vs o w k hn⟩
theorem Blk.setCells {w : World} {g : Nat} {T : TypeId} {cs : List Value} (h : Blk w g T cs) (o : Nat) (vs : List Value) (hl : o + vs.length ≤ cs.length) : Blk (w.setCells g o vs) g T (laidL o vs cs) := heap_setCells g T vs o w cs h hl
theorem Blk.there {w : World} {g : Nat} {T : TypeId} {cs : List Value} (h : Blk w g T cs) {o n : Nat} (hl : o + n ≤ cs.length) : w.there g o n := fun j hj => by
  refine ⟨?_, h.frozen _⟩
  rw [h.cell, List.getElem?_eq_getElem (by omega)]
  rfl
theorem Blk.range {w : World} {g : Nat} {T : TypeId} {cs : List Value} (h : Blk w g T cs) {o : Nat} {xs : List Value} (hx : ∀ j v, xs[j]? = some v → cs[o + j]? = some v) : w.rangeAt g o xs := fun j v hv => by
  rw [h.cell]
  exact hx j v hv
theorem there_kept {S : Nat → Prop} {w w' : World} {g o n : Nat} (h : w.there g o n) (hk : Kept S w w') (hn : ¬ S g) : w'.there g o n := fun j hj => by
  obtain ⟨h1, h2⟩ := h j hj
  cases hc : w.cell? ⟨g, o + j, none⟩ with
  | none => rw [hc] at h1; simp at h1
  | some u =>
    have hb := hk.block g (World.block_lt_of_cell? w _ hc) hn
    refine ⟨by rw [hk.cell hc hn]; rfl, ?_⟩
    rw [World.frozen?_of_block (w := w) hb]
    exact h2
theorem take_laid {o N : Nat} {vs cs : List Value} (h : o + vs.length ≤ N) (hN : N ≤ cs.length) : (laidL o vs cs).take N = laidL o vs (cs.take N) := by
  unfold laidL
  have hlen : (cs.take o ++ vs).length = o + vs.length := by simp; omega
  have e1 : (cs.take N).take o = cs.take o := by rw [List.take_take, show min o N = o by omega]
  rw [List.take_append, List.take_of_length_le (by omega), hlen, e1, List.drop_take]
theorem flat_set {k : Nat} : ∀ {rows : List (List Value)}, (∀ r ∈ rows, r.length = k) → ∀ {i : Nat} {r : List Value}, i < rows.length → r.length = k → (rows.set i r).flatten = laidL (i * k) r rows.flatten
  | [], _, i, r, hi, _ => by simp at hi
  | x :: l, h, 0, r, _, hr => by
    have hx : x.length = k := h x (List.mem_cons_self ..)
    unfold laidL
    rw [List.set_cons_zero, List.flatten_cons, List.flatten_cons, Nat.zero_mul, List.take_zero, List.nil_append, Nat.zero_add, hr, ← hx, List.drop_left]
  | x :: l, h, i + 1, r, hi, hr => by
    have hx : x.length = k := h x (List.mem_cons_self ..)
    have ih := flat_set (fun r hr => h r (List.mem_cons_of_mem _ hr)) (i := i) (r := r) (by simpa using hi) hr
    unfold laidL at ih ⊢
    have e1 : (x ++ l.flatten).take (i * k + k) = x ++ l.flatten.take (i * k) := by
      rw [List.take_append, List.take_of_length_le (by omega), hx, Nat.add_sub_cancel]
    have e2 : (x ++ l.flatten).drop (i * k + k + r.length) = l.flatten.drop (i * k + r.length) := by
      rw [List.drop_append, List.drop_of_length_le (by omega), hx, show i * k + k + r.length - k = i * k + r.length by omega, List.nil_append]
    rw [List.set_cons_succ, List.flatten_cons, ih, List.flatten_cons, Nat.succ_mul, e1, e2]
    simp
theorem owns_rowsA {w : World} {base : Nat} {T : TypeId} {k n c : Nat} {A : Option Addr} {rows : List (List Value)} (h : w.ownsRow base T k (.slice A n c) rows.length rows.flatten) (hl : ∀ r ∈ rows, r.length = k) : RowsAt w k A rows ∧ (∀ a, A = some a → a.off = 0 ∧ a.spot = none) := by
  obtain ⟨A', c', e, h1, _⟩ := owns_rows h hl
  have h2 := owns_form h
  injection e with e1 e2 e3
  subst e1
  refine ⟨h1, fun a ha => ?_⟩
  subst ha
  rcases h2 with e | ⟨g, cap, e⟩
  · cases e
  · injection e with e1 _ _
    injection e1 with e1
    subst e1
    exact ⟨rfl, rfl⟩
/-- a row of an owned slice is written -/
theorem owns_set {w : World} {base : Nat} {T : TypeId} {k g n c : Nat} {rows : List (List Value)} (h : w.ownsRow base T k (.slice (some ⟨g, 0, none⟩) n c) rows.length rows.flatten) (hl : ∀ r ∈ rows, r.length = k) {i : Nat} {r : List Value} (hi : i < rows.length) (hr : r.length = k) :
    (w.setCells g (i * k) r).ownsRow base T k (.slice (some ⟨g, 0, none⟩) n c) (rows.set i r).length (rows.set i r).flatten ∧ w.there g (i * k) k := by
  have hle : i * k + k ≤ rows.length * k := by
    have : (i + 1) * k ≤ rows.length * k := Nat.mul_le_mul_right _ hi
    rw [Nat.succ_mul] at this
    exact this
  rcases h.2 with ⟨hv, _⟩ | ⟨g', cap, cur, hv, hb, hg, hle2, hm, hsz, ht⟩
  · cases hv
  · cases hv
    have hcl : rows.length * k ≤ cur.toList.length := by
      rw [Array.length_toList (xs := cur), hsz]
      exact Nat.mul_le_mul_right _ hle2
    have hB : Blk w g T cur.toList := hg
    have hfl := flat_set hl hi hr
    refine ⟨⟨?_, .inr ⟨g, c, (laidL (i * k) r cur.toList).toArray, by rw [List.length_set], hb, heap_setCells g T r (i * k) w cur.toList hB (by omega), by rw [List.length_set]; exact hle2, hm, ?_, ?_⟩⟩, hB.there (by omega)⟩
    · rw [hfl, laidL_len (by rw [h.1]; omega), h.1, List.length_set]
    · rw [List.size_toArray, laidL_len (by omega), Array.length_toList (xs := cur), hsz]
    · rw [List.length_set, hfl, ← ht]
      exact take_laid (by omega) hcl
/-- two that own rows of different kinds -/
theorem owns_apart {w : World} {b b' : Nat} {T T' : TypeId} {k k' n n' : Nat} {v v' : Value} {xs xs' : List Value} (h : w.ownsRow b T k v n xs) (h' : w.ownsRow b' T' k' v' n' xs') (hne : T ≠ T') {g : Nat} (hg : v.ownBlock = some g) : v'.ownBlock ≠ some g := by
  intro hg'
  rcases h.2 with ⟨e, _⟩ | ⟨g1, cap, cur, e, _, hb, _⟩
  · rw [e] at hg; cases hg
  · rcases h'.2 with ⟨e', _⟩ | ⟨g2, cap', cur', e', _, hb', _⟩
    · rw [e'] at hg'; cases hg'
    · rw [e] at hg
      rw [e'] at hg'
      cases hg
      have h2 : g2 = g1 := by injection hg'
      rw [h2, hb] at hb'
      cases hb'
      exact hne rfl
/-- what is owned is another block than one of another kind -/
theorem owns_ne {w : World} {b : Nat} {T T' : TypeId} {k n : Nat} {v : Value} {xs : List Value} (h : w.ownsRow b T k v n xs) {g : Nat} {cs : List Value} (hB : Blk w g T' cs) (hne : T ≠ T') : v.ownBlock ≠ some g := by
  intro hg
  rcases h.2 with ⟨e, _⟩ | ⟨g1, cap, cur, e, _, hb, _⟩
  · rw [e] at hg; cases hg
  · rw [e] at hg
    cases hg
    unfold Blk at hB
    rw [hb] at hB
    cases hB
    exact hne rfl
theorem owns_keptO {w w' : World} {base g : Nat} {T : TypeId} {k : Nat} {v : Value} {n : Nat} {xs : List Value} (h : w.ownsRow base T k v n xs) (hk : Kept (oneB g) w w') (hg : v.ownBlock ≠ some g) : w'.ownsRow base T k v n xs := by
  refine h.kept (row := some g) ⟨hk.os, hk.tape, hk.output, hk.size, fun k hl hne => hk.block k hl (fun e => hne (by have e' : k = g := e; rw [e']))⟩ ?_
  exact .inr hg
theorem getElem?_laid_out {o j : Nat} {vs cs : List Value} (h : o + vs.length ≤ cs.length) (hj : j < o ∨ o + vs.length ≤ j) : (laidL o vs cs)[j]? = cs[j]? := by
  unfold laidL
  rcases hj with hj | hj
  · rw [List.append_assoc, List.getElem?_append_left (by simp; omega), List.getElem?_take_of_lt hj]
  · rw [List.getElem?_append_right (by simp; omega), List.getElem?_drop]
    congr 1
    simp
    omega
/-- a struct (array) of zeros is built: at once -/
theorem wpList_build0 {P : Program} {ops : Array Oper} {rest : List Oper} {o : Oper} {a : Act} {w : World} {Q : Exit → Act → World → Prop} (hgd : o.guard = none) (T : TypeId) (ho : o.op = .build T #[]) (v : Value)
    (hb : ∀ w, (Instr.build T #[]).run P w = .ok v w) (h : wpList P ops Q rest (a.put o.dst v) w) : wpList P ops Q (o :: rest) a w :=
  wpList_plain hgd fun _ hK => by
    have hr : (execOp a.eval o).run P w = .ok (.value v) w := by
      unfold execOp
      rw [ho]
      simp only [List.map_toArray, List.map_nil]
      exact run_val (hb w)
    exact wp_value hr (hK _ _ h)
/-- a struct is built of parts that are known -/
theorem wpList_buildR {P : Program} {ops : Array Oper} {rest : List Oper} {o : Oper} {a : Act} {w : World} {Q : Exit → Act → World → Prop} (hgd : o.guard = none) (T : TypeId) (l : List (Nat × Operand)) (ho : o.op = .build T l.toArray)
    (vs : List (Nat × Value)) (hv : l.map (fun p => (p.1, a.eval p.2)) = vs) (v : Value) (hb : ∀ w, (Instr.build T vs.toArray).run P w = .ok v w) (h : wpList P ops Q rest (a.put o.dst v) w) : wpList P ops Q (o :: rest) a w :=
  wpList_plain hgd fun _ hK => by
    have hr : (execOp a.eval o).run P w = .ok (.value v) w := by
      unfold execOp
      rw [ho]
      simp only [List.map_toArray]
      have e : (l.map fun (x : Nat × Operand) => match x with | (i, x) => (i, a.eval x)) = vs := hv
      rw [e]
      exact run_val (hb w)
    exact wp_value hr (hK _ _ h)
/-- a slice literal of parts that are known -/
theorem wpList_bsR {P : Program} {ops : Array Oper} {rest : List Oper} {o : Oper} {a : Act} {w : World} {Q : Exit → Act → World → Prop} (hgd : o.guard = none) (T : TypeId) (n : Nat) (l : List (Nat × Operand)) (ho : o.op = .buildSlice T n l.toArray)
    (vs : List (Nat × Value)) (hv : l.map (fun p => (p.1, a.eval p.2)) = vs) (v : Value) (w' : World) (hb : (Instr.buildSlice T n vs.toArray).run P w = .ok v w') (h : wpList P ops Q rest (a.put o.dst v) w') : wpList P ops Q (o :: rest) a w :=
  wpList_plain hgd fun _ hK => by
    have hr : (execOp a.eval o).run P w = .ok (.value v) w' := by
      unfold execOp
      rw [ho]
      simp only [List.map_toArray]
      have e : (l.map fun (x : Nat × Operand) => match x with | (i, x) => (i, a.eval x)) = vs := hv
      rw [e]
      exact run_val hb
    exact wp_value hr (hK _ _ h)
end Go.Proofs.Ytngpfjmifaecjaa
