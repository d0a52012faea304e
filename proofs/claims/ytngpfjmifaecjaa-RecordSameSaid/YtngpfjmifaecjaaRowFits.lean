/- An argument that came in, of booleans, numbers and texts in structs and arrays: its cells are of their kinds; a slice of such: its rows lie there. No condition. -/
import Derived.Test.YtngpfjmifaecjaaRowKt
import Derived.Test.YtngpfjmifaecjaaRowsW
namespace Go.Proofs.Ytngpfjmifaecjaa
open Go.ChangeShapes Go.WideShapes Go.ChangeAt Go.RowKit
def Leaf.fitW : Leaf → Value → Prop
  | .b, v => ∃ x, v = .bool x
  | .i k, v => ∃ n, v = .int k n ∧ (Lit.int k n).wf = true
  | .s, v => ∃ x, v = .string x ∧ x.size ≤ maxLen
def fitsW : List Leaf → List Value → Prop
  | [], [] => True
  | k :: ks, v :: vs => k.fitW v ∧ fitsW ks vs
  | _, _ => False
theorem fitW_fit {k : Leaf} {v : Value} (h : k.fitW v) : k.fit v := by
  cases k with
  | b => exact h
  | i k => obtain ⟨n, e, _⟩ := h; exact ⟨n, e⟩
  | s => obtain ⟨x, e, _⟩ := h; exact ⟨x, e⟩
theorem fitsW_fits : ∀ {ks : List Leaf} {xs : List Value}, fitsW ks xs → fits ks xs
  | [], [], _ => trivial
  | _ :: _, _ :: _, h => ⟨fitW_fit h.1, fitsW_fits h.2⟩
theorem fitsW_app {ks ls : List Leaf} : ∀ {xs ys : List Value}, fitsW ks xs → fitsW ls ys → fitsW (ks ++ ls) (xs ++ ys) := by
  induction ks with
  | nil => intro xs ys h h'; match xs, h with | [], _ => exact h'
  | cons k ks ih => intro xs ys h h'; match xs, h with | x :: xs, h => exact ⟨h.1, ih h.2 h'⟩
theorem fitsW_get {ks : List Leaf} : ∀ {xs : List Value}, fitsW ks xs → ∀ {i : Nat} {k : Leaf}, ks[i]? = some k → ∃ v, xs[i]? = some v ∧ k.fitW v := by
  induction ks with
  | nil => intro xs h i k hi; simp at hi
  | cons a ks ih =>
    intro xs h i k hi
    match xs, h with
    | x :: xs, h =>
      cases i with
      | zero => simp at hi; subst hi; exact ⟨x, rfl, h.1⟩
      | succ i => obtain ⟨v, h1, h2⟩ := ih h.2 (i := i) (by simpa using hi); exact ⟨v, by simpa using h1, h2⟩
section
variable {P : Program} {H : Type} {enc : TypeId × Value → H} {W : World} {base : Nat} {sp : Nat → Bool} {held : Bool}
def fieldLeavesX (P : Program) (L : TypeId → Option (List Leaf)) : Nat → List Field → Option (List Leaf)
  | _, [] => some []
  | off, f :: fs => if f.offset ≠ off then none else
    match L f.type with
    | none => none
    | some a => if P.cellsOf f.type ≠ a.length then none else match fieldLeavesX P L (off + a.length) fs with
      | none => none
      | some b => some (a ++ b)
def leavesX (P : Program) : Nat → TypeId → Option (List Leaf)
  | 0, _ => none
  | d + 1, t =>
    match P.underlying t with
    | some .bool => some [.b]
    | some (.int k) => some [.i k]
    | some .string => some [.s]
    | some (.struct fs) => match fieldLeavesX P (leavesX P d) 0 fs.toList with
      | none => none
      | some ks => if P.cellsOf t = ks.length then some ks else none
    | some (.array n e) => match leavesX P d e with
      | none => none
      | some a => if P.cellsOf e = a.length ∧ P.cellsOf t = n * a.length then some (List.replicate n a).flatten else none
    | _ => none
theorem fields_fit {n : Nat} {L : TypeId → Option (List Leaf)} (hL : ∀ t ks, L t = some ks → ∀ cs y, DataW.trod enc P W base sp held n t cs = some y → fitsW ks cs) (cs : List Value) (xs : List (DataW H × List MemPlace)) :
    ∀ (fs : List Field) (off : Nat) (ks : List Leaf) (j : Nat), fieldLeavesX P L off fs = some ks → off ≤ cs.length → cs.length = off + ks.length → (∀ (i : Nat) (f : Field), fs[i]? = some f → DataW.trod enc P W base sp held n f.type ((cs.drop f.offset).take (P.cellsOf f.type)) = xs[j + i]?) →
      xs.length = j + fs.length → fitsW ks (cs.drop off)
  | [], off, ks, j, h, ho, hl, _, _ => by
    cases h
    simp at hl
    rw [List.drop_of_length_le (by omega)]
    trivial
  | f :: fs, off, ks, j, h, ho, hl, hg, hx => by
    unfold fieldLeavesX at h
    split at h
    · cases h
    · rename_i hoff
      have hoff' : f.offset = off := Decidable.byContradiction hoff
      split at h
      · cases h
      · rename_i a ha
        split at h
        · cases h
        · rename_i hc
          have hc' : P.cellsOf f.type = a.length := Decidable.byContradiction hc
          split at h
          · cases h
          · rename_i b hb
            cases h
            rw [List.length_append] at hl
            have g0 := hg 0 f rfl
            rw [hoff', hc', Nat.add_zero] at g0
            have e0 : xs[j]? = some (xs[j]'(by rw [hx, List.length_cons]; omega)) := List.getElem?_eq_getElem _
            rw [e0] at g0
            have f0 := hL _ _ ha _ _ g0
            have f1 := fields_fit hL cs xs fs (off + a.length) b (j + 1) hb (by omega) (by omega) (fun i f' hf => by
              have := hg (i + 1) f' (by simpa using hf)
              rwa [show j + (i + 1) = j + 1 + i by omega] at this) (by rw [hx, List.length_cons]; omega)
            have e : cs.drop off = (cs.drop off).take a.length ++ cs.drop (off + a.length) := by
              rw [← List.drop_drop, List.take_append_drop]
            rw [e]
            exact fitsW_app f0 f1
theorem items_fit {n : Nat} {e : TypeId} {a : List Leaf} (he : ∀ cs y, DataW.trod enc P W base sp held n e cs = some y → fitsW a cs) (cs : List Value) (xs : List (DataW H × List MemPlace)) (m : Nat)
    (hg : ∀ i, i < m → DataW.trod enc P W base sp held n e ((cs.drop (i * a.length)).take a.length) = xs[i]?) (hx : xs.length = m) (hl : cs.length = m * a.length) :
    ∀ (k j : Nat), k + j = m → fitsW (List.replicate k a).flatten (cs.drop (j * a.length))
  | 0, j, h => by
    rw [List.drop_of_length_le (by rw [hl, ← h, Nat.zero_add]; exact Nat.le_refl _)]
    trivial
  | k + 1, j, h => by
    have ih := items_fit he cs xs m hg hx hl k (j + 1) (by omega)
    have g := hg j (by omega)
    have e0 : xs[j]? = some (xs[j]'(by omega)) := List.getElem?_eq_getElem _
    rw [e0] at g
    have f0 := he _ _ g
    rw [Nat.succ_mul] at ih
    have e1 : cs.drop (j * a.length) = (cs.drop (j * a.length)).take a.length ++ cs.drop (j * a.length + a.length) := by
      rw [← List.drop_drop, List.take_append_drop]
    rw [e1, List.replicate_succ, List.flatten_cons]
    exact fitsW_app f0 ih
theorem trod_fits : ∀ (d : Nat) (t : TypeId) (ks : List Leaf), leavesX P d t = some ks → ∀ (n : Nat) (cs : List Value) (y : DataW H × List MemPlace), DataW.trod enc P W base sp held n t cs = some y → fitsW ks cs
  | 0, t, ks, h => by simp [leavesX] at h
  | d + 1, t, ks, h => by
    intro n cs y ht
    unfold leavesX at h
    split at h
    · rename_i hu
      cases h
      obtain ⟨b, rfl, _⟩ := DataW.trod_bool hu ht
      exact ⟨⟨b, rfl⟩, trivial⟩
    · rename_i k hu
      cases h
      obtain ⟨m, rfl, _, hw⟩ := DataW.trod_int hu ht
      exact ⟨⟨m, rfl, hw⟩, trivial⟩
    · rename_i hu
      cases h
      obtain ⟨s, rfl, _, hs⟩ := DataW.trod_string hu ht
      exact ⟨⟨s, rfl, hs⟩, trivial⟩
    · rename_i fs hu
      split at h
      · cases h
      · rename_i ks' hk
        split at h
        · rename_i hc
          cases h
          obtain ⟨xs, m, _, _, hlen, hx, hg⟩ := DataW.trod_struct hu ht
          have := fields_fit (n := m) (L := leavesX P d) (fun t ks hL cs y hy => trod_fits d t ks hL m cs y hy) cs xs fs.toList 0 _ 0 hk (Nat.zero_le _) (by rw [hlen, hc, Nat.zero_add]) (fun i f hf => by
            rw [Nat.zero_add]
            exact hg i f (by simpa using hf)) (by simpa using hx)
          simpa using this
        · cases h
    · rename_i m e hu
      split at h
      · cases h
      · rename_i a ha
        split at h
        · rename_i hc
          cases h
          obtain ⟨xs, m', _, _, hlen, hx, hg⟩ := DataW.trod_array hu ht
          rw [hc.1] at hg
          have := items_fit (n := m') (a := a) (fun cs y hy => trod_fits d e a ha m' cs y hy) cs xs m hg hx (by rw [hlen, hc.2]) m 0 (by omega)
          simpa using this
        · cases h
    · cases h
/-- the rows of a slice that came in -/
theorem rows_in {d : Nat} {t e : TypeId} {ks : List Leaf} (hu : P.underlying t = some (.slice e)) (hk : leavesX P d e = some ks) (hc : P.cellsOf e = ks.length) (h0 : 0 < ks.length) {m : Nat} {cs : List Value} {y : DataW H × List MemPlace} (h : DataW.trod enc P W base sp held m t cs = some y) :
    ∃ A cap rows, cs = [.slice A rows.length cap] ∧ rows.length ≤ cap ∧ cap ≤ maxLen ∧ RowsAt W ks.length A rows ∧ ∀ r ∈ rows, fitsW ks r := by
  rcases DataW.trod_slice hu h with ⟨hcs, _⟩ | ⟨a, len, cap, elems, rest, n, _, hcs, _, hb, hl, hm, hel, hg, _, _⟩
  · exact ⟨none, 0, [], hcs, Nat.le_refl _, Nat.zero_le _, .nil _ _ _, fun r hr => by cases hr⟩
  · by_cases h00 : len = 0
    · subst h00
      exact ⟨some a, cap, [], hcs, Nat.zero_le _, hm, .nil _ _ _, fun r hr => by cases hr⟩
    · have key : ∀ i, i < len → ∃ r : List Value, fitsW ks r ∧ ∀ j v, r[j]? = some v → W.cell? ((a.add (i * ks.length)).add j) = some v := by
        intro i hi
        have g := hg i hi
        have e0 : elems[i]? = some (elems[i]'(by omega)) := List.getElem?_eq_getElem (by omega)
        rw [e0, hc, Option.bind_eq_some_iff] at g
        obtain ⟨cs', hc', ht'⟩ := g
        have hf := trod_fits d e ks hk n cs' _ ht'
        obtain ⟨_, hlen, hat⟩ := World.cells?_some hc'
        refine ⟨cs', hf, fun j v hv => ?_⟩
        obtain ⟨hj, hjv⟩ := List.getElem?_eq_some_iff.1 hv
        have hjl : j < ks.length := by rw [← fits_length (fitsW_fits hf)]; exact hj
        have := hat j hjl
        rw [this, List.getElem?_eq_getElem hj] 
        rw [hjv]
      have key' : ∀ i : Fin len, ∃ r : List Value, fitsW ks r ∧ ∀ j v, r[j]? = some v → W.cell? ((a.add (i.val * ks.length)).add j) = some v := fun i => key i.1 i.2
      let rowf : Nat → List Value := fun i => if h : i < len then (key i h).choose else []
      have hrow : ∀ i (h : i < len), fitsW ks (rowf i) ∧ ∀ j v, (rowf i)[j]? = some v → W.cell? ((a.add (i * ks.length)).add j) = some v := fun i h => by
        have : rowf i = (key i h).choose := by simp [rowf, h]
        rw [this]
        exact (key i h).choose_spec
      obtain ⟨bb, off, spot⟩ := a
      have hs : spot = none := by
        obtain ⟨h1, h2⟩ := hrow 0 (by omega)
        have hl0 := fits_length (fitsW_fits h1)
        have k0 := h2 0 _ (List.getElem?_eq_getElem (by omega))
        have z0 : ((⟨bb, off, spot⟩ : Addr).add (0 * ks.length)).add 0 = ⟨bb, off, spot⟩ := by simp [Addr.add]
        rw [z0] at k0
        exact World.cell?_spot k0
      subst hs
      refine ⟨_, cap, (List.range len).map rowf, by rw [hcs]; simp, by simpa using hl, hm, ⟨fun r hr => ?_, .inr ⟨bb, off, rfl, fun i r hr j v hj => ?_⟩⟩, fun r hr => ?_⟩
      · obtain ⟨i, hi, rfl⟩ := List.mem_map.1 hr
        exact fits_length (fitsW_fits (hrow i (by simpa using hi)).1)
      · obtain ⟨hi, hri⟩ := List.getElem?_eq_some_iff.1 hr
        simp at hi hri
        subst hri
        have := (hrow i hi).2 j v hj
        rwa [Addr.add_mid, Addr.add_mid] at this
      · obtain ⟨i, hi, rfl⟩ := List.mem_map.1 hr
        exact (hrow i (by simpa using hi)).1
end
end Go.Proofs.Ytngpfjmifaecjaa
