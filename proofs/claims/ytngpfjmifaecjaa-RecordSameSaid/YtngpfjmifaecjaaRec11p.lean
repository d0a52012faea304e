/- Words of RecordSame: what is the same, what is changed. No condition. -/
import Derived.Test.YtngpfjmifaecjaaRec9
import Derived.Test.YtngpfjmifaecjaaTwoReg
namespace Go.Proofs.Ytngpfjmifaecjaa
open Go.RowKit
theorem bool_iff {a b : Bool} (h : a = true ↔ b = true) : a = b := by
  cases a <;> cases b <;> simp_all
theorem eqCells_comm {ks : List Leaf} {l m : List Value} (h : fits ks l) (h' : fits ks m) : eqCells l m = eqCells m l :=
  bool_iff (by rw [eqCells_iff h h', eqCells_iff h' h]; exact ⟨Eq.symm, Eq.symm⟩)
theorem eqRows_comm {ks : List Leaf} {l m : List (List Value)} (h : fitsAll ks l) (h' : fitsAll ks m) : eqRows l m = eqRows m l :=
  bool_iff (by rw [eqRows_iff h h', eqRows_iff h' h]; exact ⟨Eq.symm, Eq.symm⟩)
theorem sameR_comm {a b : Rec} (ha : a.ok) (hb : b.ok) : sameR a b = sameR b a := by
  unfold sameR listsR
  rw [eqRows_comm ha.ports hb.ports, eqRows_comm ha.vlans hb.vlans, eqRows_comm ha.stat hb.stat, eqRows_comm ha.fdb hb.fdb, eqCells_comm ha.cfg hb.cfg, eqCells_comm ha.cnt hb.cnt]
  rw [show decide (a.beat = b.beat) = decide (b.beat = a.beat) from decide_eq_decide.2 eq_comm]
def res0 (a b : Rec) : Bool := eqCells a.cfg b.cfg && (decide (a.beat = b.beat) && (eqCells a.cnt b.cnt && (decide (a.ports.length = b.ports.length) && (decide (a.vlans.length = b.vlans.length) && (decide (a.stat.length = b.stat.length) && decide (a.fdb.length = b.fdb.length))))))
def res1 (a b : Rec) : Bool := res0 a b && eqRows a.ports b.ports
def res2 (a b : Rec) : Bool := res1 a b && eqRows a.vlans b.vlans
def res3 (a b : Rec) : Bool := res2 a b && eqRows a.stat b.stat
def res4 (a b : Rec) : Bool := res3 a b && eqRows a.fdb b.fdb
theorem res0_lens {a b : Rec} (h : res0 a b = true) : a.ports.length = b.ports.length ∧ a.vlans.length = b.vlans.length ∧ a.stat.length = b.stat.length ∧ a.fdb.length = b.fdb.length := by
  simp only [res0, Bool.and_eq_true, decide_eq_true_eq] at h
  exact h.2.2.2
theorem res1_0 {a b : Rec} (h : res1 a b = true) : res0 a b = true := by simp only [res1, Bool.and_eq_true] at h; exact h.1
theorem res2_0 {a b : Rec} (h : res2 a b = true) : res0 a b = true := by simp only [res2, Bool.and_eq_true] at h; exact res1_0 h.1
theorem res3_0 {a b : Rec} (h : res3 a b = true) : res0 a b = true := by simp only [res3, Bool.and_eq_true] at h; exact res2_0 h.1
theorem res4_same (a b : Rec) : res4 a b = sameR a b := by
  apply bool_iff
  unfold res4 res3 res2 res1 res0 sameR listsR
  simp only [Bool.and_eq_true, decide_eq_true_eq]
  constructor
  · rintro ⟨⟨⟨⟨⟨h1, h2, h3, _⟩, h4⟩, h5⟩, h6⟩, h7⟩
    exact ⟨⟨h4, h5, h6, h7⟩, h1, h3, h2⟩
  · rintro ⟨⟨h4, h5, h6, h7⟩, h1, h3, h2⟩
    exact ⟨⟨⟨⟨⟨h1, h2, h3, eqRows_len h4, eqRows_len h5, eqRows_len h6, eqRows_len h7⟩, h4⟩, h5⟩, h6⟩, h7⟩
/-! ### one cell of one row -/
theorem flat_setCell {k : Nat} : ∀ {rows : List (List Value)}, (∀ r ∈ rows, r.length = k) → ∀ {i : Nat} {r : List Value}, rows[i]? = some r → ∀ {j : Nat} {v : Value}, j < k → (rows.set i (r.set j v)).flatten = rows.flatten.set (i * k + j) v
  | [], _, i, r, hr, _, _, _ => by simp at hr
  | x :: l, h, 0, r, hr, j, v, hj => by
    simp at hr
    subst hr
    have hx : x.length = k := h x (List.mem_cons_self ..)
    rw [List.set_cons_zero, List.flatten_cons, List.flatten_cons, Nat.zero_mul, Nat.zero_add, List.set_append_left _ _ (by omega)]
  | x :: l, h, i + 1, r, hr, j, v, hj => by
    have hx : x.length = k := h x (List.mem_cons_self ..)
    have ih := flat_setCell (fun r hr => h r (List.mem_cons_of_mem _ hr)) (i := i) (r := r) (by simpa using hr) (j := j) (v := v) hj
    rw [List.set_cons_succ, List.flatten_cons, ih, List.flatten_cons, List.set_append_right _ _ (by rw [hx, Nat.succ_mul]; omega), hx, Nat.succ_mul, show i * k + k + j - k = i * k + j by omega]
theorem owns_setCell {w : World} {base : Nat} {T : TypeId} {k g n c : Nat} {rows : List (List Value)} (h : w.ownsRow base T k (.slice (some ⟨g, 0, none⟩) n c) rows.length rows.flatten) (hl : ∀ r ∈ rows, r.length = k) {i : Nat} {r : List Value} (hr : rows[i]? = some r) {j : Nat} (hj : j < k) (v : Value) :
    (w.setCell ⟨g, i * k + j, none⟩ v).ownsRow base T k (.slice (some ⟨g, 0, none⟩) n c) (rows.set i (r.set j v)).length (rows.set i (r.set j v)).flatten ∧ (∃ u, w.cell? ⟨g, i * k + j, none⟩ = some u) ∧ w.frozen? ⟨g, i * k + j, none⟩ = false := by
  obtain ⟨hi, _⟩ := List.getElem?_eq_some_iff.1 hr
  have hle : i * k + k ≤ rows.length * k := by
    have : (i + 1) * k ≤ rows.length * k := Nat.mul_le_mul_right _ hi
    rw [Nat.succ_mul] at this
    exact this
  rcases h.2 with ⟨hv, _⟩ | ⟨g', cap, cur, hv, hb, hg, hle2, hm, hsz, ht⟩
  · cases hv
  · cases hv
    have hcl : rows.length * k ≤ cur.toList.length := by
      rw [Array.length_toList (xs := cur), hsz]
      exact Nat.mul_le_mul_right _ hle2
    have hB : Blk w g T cur.toList := hg
    have hfl := flat_setCell hl hr (v := v) hj
    refine ⟨⟨?_, .inr ⟨g, c, (cur.toList.set (i * k + j) v).toArray, by rw [List.length_set], hb, hB.set (i * k + j) v, by rw [List.length_set]; exact hle2, hm, ?_, ?_⟩⟩, ?_, hB.frozen _⟩
    · rw [hfl, List.length_set, h.1, List.length_set]
    · rw [List.size_toArray, List.length_set, Array.length_toList (xs := cur), hsz]
    · rw [List.length_set, hfl, ← ht, List.take_set]
    · rw [hB.cell]
      exact ⟨_, List.getElem?_eq_getElem (by omega)⟩
theorem fits_set {ks : List Leaf} : ∀ {xs : List Value}, fits ks xs → ∀ {i : Nat} {k : Leaf} {v : Value}, ks[i]? = some k → k.fit v → fits ks (xs.set i v) := by
  induction ks with
  | nil => intro xs h i k v hi; simp at hi
  | cons a ks ih =>
    intro xs h i k v hi hv
    match xs, h with
    | x :: xs, h =>
      cases i with
      | zero => simp at hi; subst hi; exact ⟨hv, h.2⟩
      | succ i => exact ⟨h.1, ih h.2 (by simpa using hi) hv⟩
theorem fitsAll_set {ks : List Leaf} {l : List (List Value)} (h : fitsAll ks l) {i : Nat} {r : List Value} (hr : fits ks r) : fitsAll ks (l.set i r) := fun x hx => by
  rcases List.mem_or_eq_of_mem_set hx with h1 | h1
  · exact h x h1
  · rw [h1]; exact hr
/-- a row that is turned is another list -/
theorem eqRows_set {ks : List Leaf} {l : List (List Value)} (h : fitsAll ks l) {i : Nat} {r r' : List Value} (hr : l[i]? = some r) (hr' : fits ks r') (hne : r' ≠ r) : eqRows l (l.set i r') = false := by
  cases he : eqRows l (l.set i r') with
  | false => rfl
  | true =>
    exfalso
    have h1 := (eqRows_iff h (fitsAll_set h hr')).1 he
    obtain ⟨hi, _⟩ := List.getElem?_eq_some_iff.1 hr
    have h2 : (l.set i r')[i]? = some r' := List.getElem?_set_self hi
    rw [← h1, hr] at h2
    cases h2
    exact hne rfl
theorem set_ne {r : List Value} {j : Nat} {u v : Value} (h : r[j]? = some u) (hne : v ≠ u) : r.set j v ≠ r := fun e => by
  have h1 : (r.set j v)[j]? = some v := List.getElem?_set_self (List.getElem?_eq_some_iff.1 h).1
  rw [e, h] at h1
  cases h1
  exact hne rfl
end Go.Proofs.Ytngpfjmifaecjaa
