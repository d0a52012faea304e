/- A state of layer 14 as cells; record.Clone. Condition: the lists' lengths. (Printed by wip/mkrec2.py.) -/
import Derived.Test.YtngpfjmifaecjaaRec1
import Derived.Test.YtngpfjmifaecjaaValS
namespace Go.Proofs.Ytngpfjmifaecjaa
open Go.RowKit
set_option linter.unusedSimpArgs false
/-- a state: the cells of its settings, the rows of its lists, the cells of its counts, the beat -/
structure Rec where
  cfg : List Value
  ports : List (List Value)
  vlans : List (List Value)
  stat : List (List Value)
  fdb : List (List Value)
  cnt : List Value
  beat : Int
def ksC : List Leaf := [.i .u64, .i .i64, .i .i64, .i .i64, .i .i64, .i .i64]
def ksN : List Leaf := List.replicate 14 (.i .u32)
theorem leavesC : leavesOf Try.prog 4 56 = some ksC := by kernel_rfl
theorem leavesN : leavesOf Try.prog 4 61 = some ksN := by kernel_rfl
theorem aggC : aggT Try.prog 56 = true := by kernel_rfl
theorem aggN : aggT Try.prog 61 = true := by kernel_rfl
theorem guardC : Try.prog.eqGuardType Try.prog.depth 56 = false := by kernel_rfl
theorem guardN : Try.prog.eqGuardType Try.prog.depth 61 = false := by kernel_rfl
theorem sizeC : (Try.prog.info? 56).map (·.size) = some 6 := by kernel_rfl
theorem sizeN : (Try.prog.info? 61).map (·.size) = some 14 := by kernel_rfl
theorem sizeR : (Try.prog.info? 63).map (·.size) = some 25 := by kernel_rfl
structure Rec.ok (r : Rec) : Prop where
  cfg : fits ksC r.cfg
  cnt : fits ksN r.cnt
  ports : fitsAll ksP r.ports
  vlans : fitsAll ksV r.vlans
  stat : fitsAll ksS r.stat
  fdb : fitsAll ksF r.fdb
  l1 : r.ports.length ≤ 1000
  l2 : r.vlans.length ≤ 1000
  l3 : r.stat.length ≤ 1000
  l4 : r.fdb.length ≤ 1000
theorem Rec.ok.lc {r : Rec} (h : r.ok) : r.cfg.length = 6 := fits_length h.cfg
theorem Rec.ok.ln {r : Rec} (h : r.ok) : r.cnt.length = 14 := fits_length h.cnt
def recC (r : Rec) (P V S F : Value) : List Value := r.cfg ++ (P :: V :: S :: F :: (r.cnt ++ [.int .i64 r.beat]))
theorem recC_len {r : Rec} (h : r.ok) (P V S F : Value) : (recC r P V S F).length = 25 := by
  simp [recC, h.lc, h.ln]
theorem recC_at {r : Rec} (h : r.ok) (P V S F : Value) (i : Nat) : (recC r P V S F)[6 + i]? = (P :: V :: S :: F :: (r.cnt ++ [.int .i64 r.beat]))[i]? := by
  unfold recC
  rw [List.getElem?_append_right (by rw [h.lc]; omega), h.lc, Nat.add_sub_cancel_left]
theorem recC_6 {r : Rec} (h : r.ok) (P V S F : Value) : (recC r P V S F)[6]? = some P := recC_at h P V S F 0
theorem recC_7 {r : Rec} (h : r.ok) (P V S F : Value) : (recC r P V S F)[7]? = some V := recC_at h P V S F 1
theorem recC_8 {r : Rec} (h : r.ok) (P V S F : Value) : (recC r P V S F)[8]? = some S := recC_at h P V S F 2
theorem recC_9 {r : Rec} (h : r.ok) (P V S F : Value) : (recC r P V S F)[9]? = some F := recC_at h P V S F 3
theorem recC_24 {r : Rec} (h : r.ok) (P V S F : Value) : (recC r P V S F)[24]? = some (.int .i64 r.beat) := by
  rw [recC_at h P V S F 18]
  show (r.cnt ++ [Value.int .i64 r.beat])[14]? = _
  rw [List.getElem?_append_right (by rw [h.ln]; omega), h.ln]
  rfl
theorem recC_set6 {r : Rec} (h : r.ok) (P V S F u : Value) : (recC r P V S F).set 6 u = recC r u V S F := by
  unfold recC
  rw [List.set_append_right _ _ (by rw [h.lc]; omega), h.lc]
  rfl
theorem recC_set7 {r : Rec} (h : r.ok) (P V S F u : Value) : (recC r P V S F).set 7 u = recC r P u S F := by
  unfold recC
  rw [List.set_append_right _ _ (by rw [h.lc]; omega), h.lc]
  rfl
theorem recC_set8 {r : Rec} (h : r.ok) (P V S F u : Value) : (recC r P V S F).set 8 u = recC r P V u F := by
  unfold recC
  rw [List.set_append_right _ _ (by rw [h.lc]; omega), h.lc]
  rfl
theorem recC_set9 {r : Rec} (h : r.ok) (P V S F u : Value) : (recC r P V S F).set 9 u = recC r P V S u := by
  unfold recC
  rw [List.set_append_right _ _ (by rw [h.lc]; omega), h.lc]
  rfl
/-- its settings lie at the head of its block -/
theorem recC_cfg {w : World} {g : Nat} {T : TypeId} {r : Rec} {P V S F : Value} (hb : Blk w g T (recC r P V S F)) : w.rangeAt g 0 r.cfg := fun j v hv => by
  rw [Nat.zero_add, hb.cell]
  unfold recC
  rw [List.getElem?_append_left (List.getElem?_eq_some_iff.1 hv).1]
  exact hv
/-- .. and its counts behind its lists -/
theorem recC_cnt {w : World} {g : Nat} {T : TypeId} {r : Rec} {P V S F : Value} (h : r.ok) (hb : Blk w g T (recC r P V S F)) : w.rangeAt g 10 r.cnt := fun j v hv => by
  rw [hb.cell, show 10 + j = 6 + (j + 4) by omega, recC_at h]
  show (r.cnt ++ [Value.int .i64 r.beat])[j]? = _
  rw [List.getElem?_append_left (List.getElem?_eq_some_iff.1 hv).1]
  exact hv
theorem RowsAt.fresh {S : Nat → Prop} {w w' : World} {k : Nat} {A : Option Addr} {rows : List (List Value)} (h : RowsAt w k A rows) (hk : Kept S w w') (h0 : 0 < k) (hS : ∀ b, b < w.heap.size → ¬ S b) : RowsAt w' k A rows := by
  rcases h with ⟨h1, h2⟩
  refine ⟨h1, ?_⟩
  rcases h2 with h2 | ⟨g, off, hA, hc⟩
  · exact .inl h2
  · refine .inr ⟨g, off, hA, fun i r hr j v hj => ?_⟩
    have := hc i r hr j v hj
    exact hk.cell this (hS _ (World.block_lt_of_cell? w _ this))
/-- the rows of a state lie there -/
structure RecAt (w : World) (r : Rec) (P V S F : Value) : Prop where
  ports : ∃ A c, P = .slice A r.ports.length c ∧ RowsAt w 21 A r.ports
  vlans : ∃ A c, V = .slice A r.vlans.length c ∧ RowsAt w 3 A r.vlans
  stat : ∃ A c, S = .slice A r.stat.length c ∧ RowsAt w 8 A r.stat
  fdb : ∃ A c, F = .slice A r.fdb.length c ∧ RowsAt w 9 A r.fdb
theorem RecAt.kept {w w' : World} {r : Rec} {P V S F : Value} (h : RecAt w r P V S F) (hk : Kept noB w w') : RecAt w' r P V S F := by
  obtain ⟨⟨A1, c1, h1, q1⟩, ⟨A2, c2, h2, q2⟩, ⟨A3, c3, h3, q3⟩, ⟨A4, c4, h4, q4⟩⟩ := h
  exact ⟨⟨A1, c1, h1, q1.kept hk⟩, ⟨A2, c2, h2, q2.kept hk⟩, ⟨A3, c3, h3, q3.kept hk⟩, ⟨A4, c4, h4, q4.kept hk⟩⟩
theorem RecAt.fresh {S' : Nat → Prop} {w w' : World} {r : Rec} {P V S F : Value} (h : RecAt w r P V S F) (hk : Kept S' w w') (hS : ∀ b, b < w.heap.size → ¬ S' b) : RecAt w' r P V S F := by
  obtain ⟨⟨A1, c1, h1, q1⟩, ⟨A2, c2, h2, q2⟩, ⟨A3, c3, h3, q3⟩, ⟨A4, c4, h4, q4⟩⟩ := h
  exact ⟨⟨A1, c1, h1, q1.fresh hk (by decide) hS⟩, ⟨A2, c2, h2, q2.fresh hk (by decide) hS⟩, ⟨A3, c3, h3, q3.fresh hk (by decide) hS⟩, ⟨A4, c4, h4, q4.fresh hk (by decide) hS⟩⟩
/-- a state whose lists are the call's own -/
structure RecOwn (b : Nat) (w : World) (r : Rec) (P V S F : Value) : Prop where
  ports : w.ownsRow b 72 21 P r.ports.length r.ports.flatten
  vlans : w.ownsRow b 75 3 V r.vlans.length r.vlans.flatten
  stat : w.ownsRow b 81 8 S r.stat.length r.stat.flatten
  fdb : w.ownsRow b 85 9 F r.fdb.length r.fdb.flatten
theorem owns_at {w : World} {base : Nat} {T : TypeId} {k : Nat} {v : Value} {rows : List (List Value)} (h : w.ownsRow base T k v rows.length rows.flatten) (hl : ∀ r ∈ rows, r.length = k) : ∃ A c, v = .slice A rows.length c ∧ RowsAt w k A rows := by
  obtain ⟨A, c, h1, h2, _⟩ := owns_rows h hl
  exact ⟨A, c, h1, h2⟩
theorem RecOwn.at {b : Nat} {w : World} {r : Rec} {P V S F : Value} (h : RecOwn b w r P V S F) (hok : r.ok) : RecAt w r P V S F :=
  ⟨owns_at h.ports (fitsAll_len hok.ports), owns_at h.vlans (fitsAll_len hok.vlans), owns_at h.stat (fitsAll_len hok.stat), owns_at h.fdb (fitsAll_len hok.fdb)⟩
theorem RecOwn.kept {b : Nat} {w w' : World} {r : Rec} {P V S F : Value} (h : RecOwn b w r P V S F) (hk : Kept noB w w') : RecOwn b w' r P V S F :=
  ⟨owns_kept h.ports hk, owns_kept h.vlans hk, owns_kept h.stat hk, owns_kept h.fdb hk⟩
theorem RecOwn.keptB {b g : Nat} {w w' : World} {r : Rec} {P V S F : Value} (h : RecOwn b w r P V S F) (hk : Kept (oneB g) w w') (hg : g < b) : RecOwn b w' r P V S F :=
  ⟨owns_keptB h.ports hk hg, owns_keptB h.vlans hk hg, owns_keptB h.stat hk hg, owns_keptB h.fdb hk hg⟩
theorem RecOwn.base {b b' : Nat} {w : World} {r : Rec} {P V S F : Value} (h : RecOwn b w r P V S F) (hb : b' ≤ b) : RecOwn b' w r P V S F :=
  ⟨owns_base h.ports hb, owns_base h.vlans hb, owns_base h.stat hb, owns_base h.fdb hb⟩
/-! ### Clone: a region that draws its order, with calls and stores -/
section
variable {val : Nat → Option Value} {ex : Nat → World → Value → Prop} {S : Nat → Prop} {W : (Nat → Bool) → World → Prop} {a0 a : Act} {ds : List (Nat × Nat)} {f : Nat → Bool} {w w' : World}
theorem valS_keptS (hex : ∀ i w w' v, Kept S w w' → ex i w v → ex i w' v) {f f' : Nat → Bool} (hk : Kept S w w') (i : Nat) (v : Value) (h : valS val ex i f w v) : valS val ex i f' w' v := by
  unfold valS at h ⊢
  cases hv : val i with
  | some u => rw [hv] at h; exact h
  | none => rw [hv] at h; exact hex i _ _ v hk h
theorem VT.put (hI : Slots a0 ds (valS val ex) W f a w) {i d : Nat} {v : Value} (hok : slotsOk a0.tmps.size ds = true) (hd : (i, d) ∈ ds) (hS : ∀ f, valS val ex i f w' v) (hW : W (fun j => decide (j = i) || f j) w') (hk : Kept S w w')
    (hex : ∀ i w w' v, Kept S w w' → ex i w v → ex i w' v) : Slots a0 ds (valS val ex) W (fun j => decide (j = i) || f j) (a.put (some d) v) w' :=
  hI.put hok hd hW (hS _) (fun _ _ _ _ h => valS_keptS hex hk _ _ h)
theorem VT.step (hI : Slots a0 ds (valS val ex) W f a w) {i d : Nat} {v : Value} (hok : slotsOk a0.tmps.size ds = true) (hd : (i, d) ∈ ds) (hv : val i = some v) (hW : W (fun j => decide (j = i) || f j) w') (hk : Kept S w w')
    (hex : ∀ i w w' v, Kept S w w' → ex i w v → ex i w' v) : Slots a0 ds (valS val ex) W (fun j => decide (j = i) || f j) (a.put (some d) v) w' :=
  VT.put hI hok hd (fun _ => by unfold valS; rw [hv]) hW hk hex
theorem VT.pass (hI : Slots a0 ds (valS val ex) W f a w) {i : Nat} {v : Value} (hd : ∀ p ∈ ds, p.1 ≠ i) (hW : W (fun j => decide (j = i) || f j) w') (hk : Kept S w w')
    (hex : ∀ i w w' v, Kept S w w' → ex i w v → ex i w' v) : Slots a0 ds (valS val ex) W (fun j => decide (j = i) || f j) (a.put none v) w' :=
  hI.pass hd hW (fun _ _ _ _ h => valS_keptS hex hk _ _ h)
end
def clD : List (Nat × Nat) := [(0, 3), (1, 4), (2, 5), (3, 6), (4, 7), (5, 8), (6, 9), (7, 10), (8, 11), (9, 12), (10, 13), (11, 14), (12, 15), (14, 16), (16, 17), (18, 18)]
def clV (B : Nat) (P0 V0 S0 F0 : Value) : Nat → Option Value
  | 0 => some (.pointer (some ⟨B, 6, none⟩))
  | 1 => some (P0)
  | 3 => some (.pointer (some ⟨B, 7, none⟩))
  | 4 => some (V0)
  | 6 => some (.pointer (some ⟨B, 8, none⟩))
  | 7 => some (S0)
  | 9 => some (.pointer (some ⟨B, 9, none⟩))
  | 10 => some (F0)
  | 12 => some (.pointer (some ⟨B, 6, none⟩))
  | 14 => some (.pointer (some ⟨B, 7, none⟩))
  | 16 => some (.pointer (some ⟨B, 8, none⟩))
  | 18 => some (.pointer (some ⟨B, 9, none⟩))
  | _ => none
/-- what the calls leave -/
def clE (B : Nat) (r : Rec) (i : Nat) (w : World) (v : Value) : Prop :=
  match i with
  | 2 => w.ownsRow (B + 2) 72 21 v r.ports.length r.ports.flatten
  | 5 => w.ownsRow (B + 2) 75 3 v r.vlans.length r.vlans.flatten
  | 8 => w.ownsRow (B + 2) 81 8 v r.stat.length r.stat.flatten
  | 11 => w.ownsRow (B + 2) 85 9 v r.fdb.length r.fdb.flatten
  | _ => True
theorem clE_kept (B : Nat) (r : Rec) (i : Nat) (w w' : World) (v : Value) (hk : Kept (oneB B) w w') (h : clE B r i w v) : clE B r i w' v := by
  unfold clE at h ⊢
  split
  · exact owns_keptB h hk (by omega)
  · exact owns_keptB h hk (by omega)
  · exact owns_keptB h hk (by omega)
  · exact owns_keptB h hk (by omega)
  · trivial
/-- a cell: what it was, or the call's own -/
def Laid (f : Bool) (w : World) (b : Nat) (T : TypeId) (k : Nat) (rows : List (List Value)) (v0 v : Value) : Prop := (f = false → v = v0) ∧ (f = true → w.ownsRow b T k v rows.length rows.flatten)
theorem Laid.keptB {f : Bool} {w w' : World} {b g : Nat} {T : TypeId} {k : Nat} {rows : List (List Value)} {v0 v : Value} (h : Laid f w b T k rows v0 v) (hk : Kept (oneB g) w w') (hg : g < b) : Laid f w' b T k rows v0 v :=
  ⟨h.1, fun e => owns_keptB (h.2 e) hk hg⟩
structure RW (w0 : World) (B : Nat) (r : Rec) (P0 V0 S0 F0 : Value) (f : Nat → Bool) (w : World) : Prop where
  kept : Kept (oneB B) w0 w
  size : B + 2 ≤ w.heap.size
  o1 : f 13 = true → f 1 = true
  o2 : f 15 = true → f 4 = true
  o3 : f 17 = true → f 7 = true
  o4 : f 19 = true → f 10 = true
  blk : ∃ P V S F, Blk w B 63 (recC r P V S F) ∧ Laid (f 13) w (B + 2) 72 21 r.ports P0 P ∧ Laid (f 15) w (B + 2) 75 3 r.vlans V0 V ∧
    Laid (f 17) w (B + 2) 81 8 r.stat S0 S ∧ Laid (f 19) w (B + 2) 85 9 r.fdb F0 F
section
variable {w0 w w' : World} {B : Nat} {r : Rec} {P0 V0 S0 F0 : Value} {f : Nat → Bool}
theorem upd_ne {f : Nat → Bool} {i j : Nat} (h : i ≠ j) : (decide (j = i) || f j) = f j := by
  have : decide (j = i) = false := by simp; exact fun e => h e.symm
  rw [this, Bool.false_or]
theorem upd_le {f : Nat → Bool} {i j : Nat} (h : f j = true) : (decide (j = i) || f j) = true := by rw [h, Bool.or_true]
theorem RW.step (i : Nat) (h1 : i ≠ 13) (h2 : i ≠ 15) (h3 : i ≠ 17) (h4 : i ≠ 19) (h : RW w0 B r P0 V0 S0 F0 f w) (hk : Kept noB w w') : RW w0 B r P0 V0 S0 F0 (fun j => decide (j = i) || f j) w' := by
  obtain ⟨k1, k2, o1, o2, o3, o4, P, V, S, F, hb, q1, q2, q3, q4⟩ := h
  have hkB : Kept (oneB B) w w' := hk.mono (fun _ _ e => e.elim)
  refine ⟨k1.no hk, Nat.le_trans k2 hk.size, ?_, ?_, ?_, ?_, P, V, S, F, hb.kept hk (fun e => e), ?_, ?_, ?_, ?_⟩
  · simp only [upd_ne h1]; exact fun e => upd_le (o1 e)
  · simp only [upd_ne h2]; exact fun e => upd_le (o2 e)
  · simp only [upd_ne h3]; exact fun e => upd_le (o3 e)
  · simp only [upd_ne h4]; exact fun e => upd_le (o4 e)
  · simp only [upd_ne h1]; exact q1.keptB hkB (by omega)
  · simp only [upd_ne h2]; exact q2.keptB hkB (by omega)
  · simp only [upd_ne h3]; exact q3.keptB hkB (by omega)
  · simp only [upd_ne h4]; exact q4.keptB hkB (by omega)
theorem not_of {a b : Bool} (h : a = true → b = true) (hb : b = false) : a = false := by
  cases ha : a with
  | false => rfl
  | true => rw [h ha] at hb; cases hb
theorem RW.load0 (h : RW w0 B r P0 V0 S0 F0 f w) (hok : r.ok) (hf : f 1 = false) : w.cell? ⟨B, 6, none⟩ = some P0 := by
  obtain ⟨k1, k2, o1, o2, o3, o4, P, V, S, F, hb, q1, q2, q3, q4⟩ := h
  rw [hb.cell, recC_6 hok, q1.1 (not_of o1 hf)]
theorem RW.load1 (h : RW w0 B r P0 V0 S0 F0 f w) (hok : r.ok) (hf : f 4 = false) : w.cell? ⟨B, 7, none⟩ = some V0 := by
  obtain ⟨k1, k2, o1, o2, o3, o4, P, V, S, F, hb, q1, q2, q3, q4⟩ := h
  rw [hb.cell, recC_7 hok, q2.1 (not_of o2 hf)]
theorem RW.load2 (h : RW w0 B r P0 V0 S0 F0 f w) (hok : r.ok) (hf : f 7 = false) : w.cell? ⟨B, 8, none⟩ = some S0 := by
  obtain ⟨k1, k2, o1, o2, o3, o4, P, V, S, F, hb, q1, q2, q3, q4⟩ := h
  rw [hb.cell, recC_8 hok, q3.1 (not_of o3 hf)]
theorem RW.load3 (h : RW w0 B r P0 V0 S0 F0 f w) (hok : r.ok) (hf : f 10 = false) : w.cell? ⟨B, 9, none⟩ = some F0 := by
  obtain ⟨k1, k2, o1, o2, o3, o4, P, V, S, F, hb, q1, q2, q3, q4⟩ := h
  rw [hb.cell, recC_9 hok, q4.1 (not_of o4 hf)]
theorem RW.there (h : RW w0 B r P0 V0 S0 F0 f w) (hok : r.ok) (j : Nat) (hj : j < 25) : (∃ u, w.cell? ⟨B, j, none⟩ = some u) ∧ w.frozen? ⟨B, j, none⟩ = false := by
  obtain ⟨k1, k2, o1, o2, o3, o4, P, V, S, F, hb, q1, q2, q3, q4⟩ := h
  refine ⟨?_, hb.frozen _⟩
  rw [hb.cell]
  exact ⟨_, List.getElem?_eq_getElem (by rw [recC_len hok]; exact hj)⟩
theorem RW.store0 (h : RW w0 B r P0 V0 S0 F0 f w) (hok : r.ok) {v : Value} (hv : w.ownsRow (B + 2) 72 21 v r.ports.length r.ports.flatten) (h1 : f 1 = true) : RW w0 B r P0 V0 S0 F0 (fun j => decide (j = 13) || f j) (w.setCell ⟨B, 6, none⟩ v) := by
  obtain ⟨k1, k2, o1, o2, o3, o4, P, V, S, F, hb, q1, q2, q3, q4⟩ := h
  have hk : Kept (oneB B) w (w.setCell ⟨B, 6, none⟩ v) := Kept.setOne _ _ _ _
  refine ⟨k1.setCell (p := ⟨B, 6, none⟩) (fun _ => (rfl : B = B)) _, by simpa [World.setCell] using k2, fun _ => upd_le h1, ?_, ?_, ?_, v, V, S, F, ?_, ⟨fun e => by simp at e, fun _ => owns_keptB hv hk (by omega)⟩, ?_, ?_, ?_⟩
  · simp only [upd_ne (show 13 ≠ 15 by decide)]; exact fun e => upd_le (o2 e)
  · simp only [upd_ne (show 13 ≠ 17 by decide)]; exact fun e => upd_le (o3 e)
  · simp only [upd_ne (show 13 ≠ 19 by decide)]; exact fun e => upd_le (o4 e)
  · have := hb.set 6 v; rwa [recC_set6 hok] at this
  · simp only [upd_ne (show 13 ≠ 15 by decide)]; exact q2.keptB hk (by omega)
  · simp only [upd_ne (show 13 ≠ 17 by decide)]; exact q3.keptB hk (by omega)
  · simp only [upd_ne (show 13 ≠ 19 by decide)]; exact q4.keptB hk (by omega)
theorem RW.store1 (h : RW w0 B r P0 V0 S0 F0 f w) (hok : r.ok) {v : Value} (hv : w.ownsRow (B + 2) 75 3 v r.vlans.length r.vlans.flatten) (h1 : f 4 = true) : RW w0 B r P0 V0 S0 F0 (fun j => decide (j = 15) || f j) (w.setCell ⟨B, 7, none⟩ v) := by
  obtain ⟨k1, k2, o1, o2, o3, o4, P, V, S, F, hb, q1, q2, q3, q4⟩ := h
  have hk : Kept (oneB B) w (w.setCell ⟨B, 7, none⟩ v) := Kept.setOne _ _ _ _
  refine ⟨k1.setCell (p := ⟨B, 7, none⟩) (fun _ => (rfl : B = B)) _, by simpa [World.setCell] using k2, ?_, fun _ => upd_le h1, ?_, ?_, P, v, S, F, ?_, ?_, ⟨fun e => by simp at e, fun _ => owns_keptB hv hk (by omega)⟩, ?_, ?_⟩
  · simp only [upd_ne (show 15 ≠ 13 by decide)]; exact fun e => upd_le (o1 e)
  · simp only [upd_ne (show 15 ≠ 17 by decide)]; exact fun e => upd_le (o3 e)
  · simp only [upd_ne (show 15 ≠ 19 by decide)]; exact fun e => upd_le (o4 e)
  · have := hb.set 7 v; rwa [recC_set7 hok] at this
  · simp only [upd_ne (show 15 ≠ 13 by decide)]; exact q1.keptB hk (by omega)
  · simp only [upd_ne (show 15 ≠ 17 by decide)]; exact q3.keptB hk (by omega)
  · simp only [upd_ne (show 15 ≠ 19 by decide)]; exact q4.keptB hk (by omega)
theorem RW.store2 (h : RW w0 B r P0 V0 S0 F0 f w) (hok : r.ok) {v : Value} (hv : w.ownsRow (B + 2) 81 8 v r.stat.length r.stat.flatten) (h1 : f 7 = true) : RW w0 B r P0 V0 S0 F0 (fun j => decide (j = 17) || f j) (w.setCell ⟨B, 8, none⟩ v) := by
  obtain ⟨k1, k2, o1, o2, o3, o4, P, V, S, F, hb, q1, q2, q3, q4⟩ := h
  have hk : Kept (oneB B) w (w.setCell ⟨B, 8, none⟩ v) := Kept.setOne _ _ _ _
  refine ⟨k1.setCell (p := ⟨B, 8, none⟩) (fun _ => (rfl : B = B)) _, by simpa [World.setCell] using k2, ?_, ?_, fun _ => upd_le h1, ?_, P, V, v, F, ?_, ?_, ?_, ⟨fun e => by simp at e, fun _ => owns_keptB hv hk (by omega)⟩, ?_⟩
  · simp only [upd_ne (show 17 ≠ 13 by decide)]; exact fun e => upd_le (o1 e)
  · simp only [upd_ne (show 17 ≠ 15 by decide)]; exact fun e => upd_le (o2 e)
  · simp only [upd_ne (show 17 ≠ 19 by decide)]; exact fun e => upd_le (o4 e)
  · have := hb.set 8 v; rwa [recC_set8 hok] at this
  · simp only [upd_ne (show 17 ≠ 13 by decide)]; exact q1.keptB hk (by omega)
  · simp only [upd_ne (show 17 ≠ 15 by decide)]; exact q2.keptB hk (by omega)
  · simp only [upd_ne (show 17 ≠ 19 by decide)]; exact q4.keptB hk (by omega)
theorem RW.store3 (h : RW w0 B r P0 V0 S0 F0 f w) (hok : r.ok) {v : Value} (hv : w.ownsRow (B + 2) 85 9 v r.fdb.length r.fdb.flatten) (h1 : f 10 = true) : RW w0 B r P0 V0 S0 F0 (fun j => decide (j = 19) || f j) (w.setCell ⟨B, 9, none⟩ v) := by
  obtain ⟨k1, k2, o1, o2, o3, o4, P, V, S, F, hb, q1, q2, q3, q4⟩ := h
  have hk : Kept (oneB B) w (w.setCell ⟨B, 9, none⟩ v) := Kept.setOne _ _ _ _
  refine ⟨k1.setCell (p := ⟨B, 9, none⟩) (fun _ => (rfl : B = B)) _, by simpa [World.setCell] using k2, ?_, ?_, ?_, fun _ => upd_le h1, P, V, S, v, ?_, ?_, ?_, ?_, ⟨fun e => by simp at e, fun _ => owns_keptB hv hk (by omega)⟩⟩
  · simp only [upd_ne (show 19 ≠ 13 by decide)]; exact fun e => upd_le (o1 e)
  · simp only [upd_ne (show 19 ≠ 15 by decide)]; exact fun e => upd_le (o2 e)
  · simp only [upd_ne (show 19 ≠ 17 by decide)]; exact fun e => upd_le (o3 e)
  · have := hb.set 9 v; rwa [recC_set9 hok] at this
  · simp only [upd_ne (show 19 ≠ 13 by decide)]; exact q1.keptB hk (by omega)
  · simp only [upd_ne (show 19 ≠ 15 by decide)]; exact q2.keptB hk (by omega)
  · simp only [upd_ne (show 19 ≠ 17 by decide)]; exact q3.keptB hk (by omega)
theorem RW.rows {W : World} {k : Nat} {A : Option Addr} {rows : List (List Value)} (h : RW w0 B r P0 V0 S0 F0 f w) (hr : RowsAt W k A rows) (h0 : 0 < k) (hB : W.heap.size = B) (hk : Kept noB W w0) : RowsAt w k A rows := by
  refine hr.fresh (Kept.then (S := oneB B) (hk.mono (fun _ _ e => e.elim)) h.kept (fun _ _ e => e)) h0 (fun b hb e => ?_)
  have e' : b = B := e
  omega
end
def zeroR : List Value := [.int .u64 0, .int .i64 0, .int .i64 0, .int .i64 0, .int .i64 0, .int .i64 0, .slice none 0 0, .slice none 0 0, .slice none 0 0, .slice none 0 0, .int .u32 0, .int .u32 0, .int .u32 0, .int .u32 0, .int .u32 0, .int .u32 0, .int .u32 0, .int .u32 0, .int .u32 0, .int .u32 0, .int .u32 0, .int .u32 0, .int .u32 0, .int .u32 0, .int .i64 0]
theorem owns_one {w : World} {b : Nat} {T : TypeId} {k : Nat} {v : Value} {n : Nat} {xs : List Value} (h : w.ownsRow b T k v n xs) : v.oneCell' = true := by
  rcases owns_form h with rfl | ⟨g, cap, rfl⟩ <;> rfl
theorem recC_one {b : Nat} {w : World} {r : Rec} {P V S F : Value} (hok : r.ok) (h : RecOwn b w r P V S F) : ∀ u ∈ recC r P V S F, u.oneCell' = true := by
  intro u hu
  simp only [recC, List.mem_append, List.mem_cons] at hu
  rcases hu with hu | rfl | rfl | rfl | rfl | hu | hu | hu
  · exact one_fits hok.cfg u hu
  · exact owns_one h.ports
  · exact owns_one h.vlans
  · exact owns_one h.stat
  · exact owns_one h.fdb
  · exact one_fits hok.cnt u hu
  · subst hu; rfl
  · cases hu
set_option maxRecDepth 100000 in
set_option maxHeartbeats 4000000 in
theorem clone_calls (r : Rec) (P0 V0 S0 F0 : Value) (w : World) (hok : r.ok) (h : RecAt w r P0 V0 S0 F0) :
    Calls Try.prog 34 #[.agg (recC r P0 V0 S0 F0).toArray] w fun e w' => ∃ P V S F, e = .returned (.agg (recC r P V S F).toArray) ∧ RecOwn w.heap.size w' r P V S F ∧ Kept noB w w' := by
  obtain ⟨⟨A1, n1, rfl, r1⟩, ⟨A2, n2, rfl, r2⟩, ⟨A3, n3, rfl, r3⟩, ⟨A4, n4, rfl, r4⟩⟩ := h
  have hlen := recC_len hok (.slice A1 r.ports.length n1) (.slice A2 r.vlans.length n2) (.slice A3 r.stat.length n3) (.slice A4 r.fdb.length n4)
  have hBlk := Blk.new w 63 (recC r (.slice A1 r.ports.length n1) (.slice A2 r.vlans.length n2) (.slice A3 r.stat.length n3) (.slice A4 r.fdb.length n4))
  generalize hcs : (recC r (.slice A1 r.ports.length n1) (.slice A2 r.vlans.length n2) (.slice A3 r.stat.length n3) (.slice A4 r.fdb.length n4)) = cs at *
  have HL := Lib.hid hlen
  have HB := Lib.hid hBlk
  have HC := Lib.hid hcs
  have HOK := Lib.hid hok
  have R1 := Lib.hid r1
  have R2 := Lib.hid r2
  have R3 := Lib.hid r3
  have R4 := Lib.hid r4
  clear hlen hBlk hcs hok r1 r2 r3 r4
  go_enter Try.func34, Try.ntmps34
  go_wp2_with fail
  have hb1 := HB.out.alloc (.cells zeroR.toArray 63)
  have hb2 := Blk.new (w.alloc (.cells cs.toArray 63)) 63 zeroR
  have hkw : Kept noB w ((w.alloc (.cells cs.toArray 63)).alloc (.cells zeroR.toArray 63)) := ((Kept.refl _ _).alloc _).alloc _
  have hsz : ((w.alloc (.cells cs.toArray 63)).alloc (.cells zeroR.toArray 63)).heap.size = w.heap.size + 2 := by simp
  rw [show (w.alloc (.cells cs.toArray 63)).heap.size = w.heap.size + 1 by simp] at hb2
  change Code.wp _ _ _ _ ((w.alloc (.cells cs.toArray 63)).alloc (.cells zeroR.toArray 63))
  generalize (w.alloc (.cells cs.toArray 63)).alloc (.cells zeroR.toArray 63) = W0 at *
  obtain ⟨B, hB⟩ : ∃ B, w.heap.size = B := ⟨_, rfl⟩
  rw [hB] at hb1 hb2 hsz ⊢
  have hrl := HOK.out
  have hex := clE_kept B r
  have hrlP := hrl.ports
  have r1 := R1.out
  have r2 := R2.out
  have r3 := R3.out
  have r4 := R4.out
  rw [← HC.out] at hb1
  have hokP : fitsAll ksP r.ports ∧ r.ports.length ≤ 1000 := ⟨hrl.ports, hrl.l1⟩
  have hokV : fitsAll ksV r.vlans ∧ r.vlans.length ≤ 1000 := ⟨hrl.vlans, hrl.l2⟩
  have hokS : fitsAll ksS r.stat ∧ r.stat.length ≤ 1000 := ⟨hrl.stat, hrl.l3⟩
  have hokF : fitsAll ksF r.fdb ∧ r.fdb.length ≤ 1000 := ⟨hrl.fdb, hrl.l4⟩
  refine wp_region_inv (by kernel_rfl) (by kernel_rfl) (Slots _ clD (valS (clV B (.slice A1 r.ports.length n1) (.slice A2 r.vlans.length n2) (.slice A3 r.stat.length n3) (.slice A4 r.fdb.length n4)) (clE B r)) (RW W0 B r (.slice A1 r.ports.length n1) (.slice A2 r.vlans.length n2) (.slice A3 r.stat.length n3) (.slice A4 r.fdb.length n4)))
    (Slots.start ⟨(Kept.refl _ _).drew, Nat.le_of_eq hsz.symm, (fun e => by cases e), (fun e => by cases e), (fun e => by cases e), (fun e => by cases e), _, _, _, _, hb1.drew, ⟨fun _ => rfl, (fun e => by cases e)⟩, ⟨fun _ => rfl, (fun e => by cases e)⟩, ⟨fun _ => rfl, (fun e => by cases e)⟩, ⟨fun _ => rfl, (fun e => by cases e)⟩⟩) ?_ ?_
  · intro f a' wz hI i o ho hfi hall
    have hi : i < 20 := (Array.getElem?_eq_some_iff.1 ho).1
    have hW := hI.world
    have hsB : B ≤ wz.heap.size := by have := hW.size; omega
    rcases (by omega : i = 0 ∨ i = 1 ∨ i = 2 ∨ i = 3 ∨ i = 4 ∨ i = 5 ∨ i = 6 ∨ i = 7 ∨ i = 8 ∨ i = 9 ∨ i = 10 ∨ i = 11 ∨ i = 12 ∨ i = 13 ∨ i = 14 ∨ i = 15 ∨ i = 16 ∨ i = 17 ∨ i = 18 ∨ i = 19) with rfl | rfl | rfl | rfl | rfl | rfl | rfl | rfl | rfl | rfl | rfl | rfl | rfl | rfl | rfl | rfl | rfl | rfl | rfl | rfl
    all_goals
      simp only [List.getElem?_toArray, List.getElem?_cons_zero, List.getElem?_cons_succ, Option.some.injEq] at ho
      subst ho
    · have e1 : a'.eval (.tmp 1) = .pointer (some ⟨B, 0, none⟩) := hI.old (by decide)
      refine wp_value (w' := wz) ?_ (VT.step hI (d := 3) (by kernel_rfl) (by decide) rfl (RW.step 0 (by decide) (by decide) (by decide) (by decide) hW (Kept.refl _ _)) (Kept.refl _ _) hex)
      (unfold execOp; simp only [List.map_toArray, List.map_cons, List.map_nil, e1]; (try simp [go_sem, e1]); try omega)
    · have e3 : a'.eval (.tmp 3) = .pointer (some ⟨B, 6, none⟩) := hI.eval (k := 0) (by decide) (hall ⟨0, .data⟩ (by simp) rfl)
      have hc := hW.load0 hrl hfi
      refine wp_value (w' := wz) ?_ (VT.step hI (d := 4) (by kernel_rfl) (by decide) rfl (RW.step 1 (by decide) (by decide) (by decide) (by decide) hW (Kept.refl _ _)) (Kept.refl _ _) hex)
      (unfold execOp; simp only [List.map_toArray, List.map_cons, List.map_nil, e3, hc]; (try simp [go_sem, e3, hc]); try omega)
    · have e4 : a'.eval (.tmp 4) = .slice A1 r.ports.length n1 := hI.eval (k := 1) (by decide) (hall ⟨1, .data⟩ (by simp) rfl)
      refine wp_go Try.func56 rfl rfl (args := #[.slice A1 r.ports.length n1]) (by simp only [List.map_toArray, List.map_cons, List.map_nil, e4]) ((cloneP_calls r.ports A1 n1 wz (hW.rows r1 (by decide) hB hkw) hokP.1 hokP.2).mono ?_)
      rintro e w' ⟨v, rfl, hown, hk⟩
      refine ⟨_, rfl, VT.put hI (d := 5) (by kernel_rfl) (by decide) (fun _ => ?_) (RW.step 2 (by decide) (by decide) (by decide) (by decide) hW hk) (hk.mono (fun _ _ e => e.elim)) hex⟩
      exact owns_base hown hW.size
    · have e1 : a'.eval (.tmp 1) = .pointer (some ⟨B, 0, none⟩) := hI.old (by decide)
      refine wp_value (w' := wz) ?_ (VT.step hI (d := 6) (by kernel_rfl) (by decide) rfl (RW.step 3 (by decide) (by decide) (by decide) (by decide) hW (Kept.refl _ _)) (Kept.refl _ _) hex)
      (unfold execOp; simp only [List.map_toArray, List.map_cons, List.map_nil, e1]; (try simp [go_sem, e1]); try omega)
    · have e6 : a'.eval (.tmp 6) = .pointer (some ⟨B, 7, none⟩) := hI.eval (k := 3) (by decide) (hall ⟨3, .data⟩ (by simp) rfl)
      have hc := hW.load1 hrl hfi
      refine wp_value (w' := wz) ?_ (VT.step hI (d := 7) (by kernel_rfl) (by decide) rfl (RW.step 4 (by decide) (by decide) (by decide) (by decide) hW (Kept.refl _ _)) (Kept.refl _ _) hex)
      (unfold execOp; simp only [List.map_toArray, List.map_cons, List.map_nil, e6, hc]; (try simp [go_sem, e6, hc]); try omega)
    · have e7 : a'.eval (.tmp 7) = .slice A2 r.vlans.length n2 := hI.eval (k := 4) (by decide) (hall ⟨4, .data⟩ (by simp) rfl)
      refine wp_go Try.func57 rfl rfl (args := #[.slice A2 r.vlans.length n2]) (by simp only [List.map_toArray, List.map_cons, List.map_nil, e7]) ((cloneV_calls r.vlans A2 n2 wz (hW.rows r2 (by decide) hB hkw) hokV.1 hokV.2).mono ?_)
      rintro e w' ⟨v, rfl, hown, hk⟩
      refine ⟨_, rfl, VT.put hI (d := 8) (by kernel_rfl) (by decide) (fun _ => ?_) (RW.step 5 (by decide) (by decide) (by decide) (by decide) hW hk) (hk.mono (fun _ _ e => e.elim)) hex⟩
      exact owns_base hown hW.size
    · have e1 : a'.eval (.tmp 1) = .pointer (some ⟨B, 0, none⟩) := hI.old (by decide)
      refine wp_value (w' := wz) ?_ (VT.step hI (d := 9) (by kernel_rfl) (by decide) rfl (RW.step 6 (by decide) (by decide) (by decide) (by decide) hW (Kept.refl _ _)) (Kept.refl _ _) hex)
      (unfold execOp; simp only [List.map_toArray, List.map_cons, List.map_nil, e1]; (try simp [go_sem, e1]); try omega)
    · have e9 : a'.eval (.tmp 9) = .pointer (some ⟨B, 8, none⟩) := hI.eval (k := 6) (by decide) (hall ⟨6, .data⟩ (by simp) rfl)
      have hc := hW.load2 hrl hfi
      refine wp_value (w' := wz) ?_ (VT.step hI (d := 10) (by kernel_rfl) (by decide) rfl (RW.step 7 (by decide) (by decide) (by decide) (by decide) hW (Kept.refl _ _)) (Kept.refl _ _) hex)
      (unfold execOp; simp only [List.map_toArray, List.map_cons, List.map_nil, e9, hc]; (try simp [go_sem, e9, hc]); try omega)
    · have e10 : a'.eval (.tmp 10) = .slice A3 r.stat.length n3 := hI.eval (k := 7) (by decide) (hall ⟨7, .data⟩ (by simp) rfl)
      refine wp_go Try.func58 rfl rfl (args := #[.slice A3 r.stat.length n3]) (by simp only [List.map_toArray, List.map_cons, List.map_nil, e10]) ((cloneS_calls r.stat A3 n3 wz (hW.rows r3 (by decide) hB hkw) hokS.1 hokS.2).mono ?_)
      rintro e w' ⟨v, rfl, hown, hk⟩
      refine ⟨_, rfl, VT.put hI (d := 11) (by kernel_rfl) (by decide) (fun _ => ?_) (RW.step 8 (by decide) (by decide) (by decide) (by decide) hW hk) (hk.mono (fun _ _ e => e.elim)) hex⟩
      exact owns_base hown hW.size
    · have e1 : a'.eval (.tmp 1) = .pointer (some ⟨B, 0, none⟩) := hI.old (by decide)
      refine wp_value (w' := wz) ?_ (VT.step hI (d := 12) (by kernel_rfl) (by decide) rfl (RW.step 9 (by decide) (by decide) (by decide) (by decide) hW (Kept.refl _ _)) (Kept.refl _ _) hex)
      (unfold execOp; simp only [List.map_toArray, List.map_cons, List.map_nil, e1]; (try simp [go_sem, e1]); try omega)
    · have e12 : a'.eval (.tmp 12) = .pointer (some ⟨B, 9, none⟩) := hI.eval (k := 9) (by decide) (hall ⟨9, .data⟩ (by simp) rfl)
      have hc := hW.load3 hrl hfi
      refine wp_value (w' := wz) ?_ (VT.step hI (d := 13) (by kernel_rfl) (by decide) rfl (RW.step 10 (by decide) (by decide) (by decide) (by decide) hW (Kept.refl _ _)) (Kept.refl _ _) hex)
      (unfold execOp; simp only [List.map_toArray, List.map_cons, List.map_nil, e12, hc]; (try simp [go_sem, e12, hc]); try omega)
    · have e13 : a'.eval (.tmp 13) = .slice A4 r.fdb.length n4 := hI.eval (k := 10) (by decide) (hall ⟨10, .data⟩ (by simp) rfl)
      refine wp_go Try.func59 rfl rfl (args := #[.slice A4 r.fdb.length n4]) (by simp only [List.map_toArray, List.map_cons, List.map_nil, e13]) ((cloneF_calls r.fdb A4 n4 wz (hW.rows r4 (by decide) hB hkw) hokF.1 hokF.2).mono ?_)
      rintro e w' ⟨v, rfl, hown, hk⟩
      refine ⟨_, rfl, VT.put hI (d := 14) (by kernel_rfl) (by decide) (fun _ => ?_) (RW.step 11 (by decide) (by decide) (by decide) (by decide) hW hk) (hk.mono (fun _ _ e => e.elim)) hex⟩
      exact owns_base hown hW.size
    · have e1 : a'.eval (.tmp 1) = .pointer (some ⟨B, 0, none⟩) := hI.old (by decide)
      refine wp_value (w' := wz) ?_ (VT.step hI (d := 15) (by kernel_rfl) (by decide) rfl (RW.step 12 (by decide) (by decide) (by decide) (by decide) hW (Kept.refl _ _)) (Kept.refl _ _) hex)
      (unfold execOp; simp only [List.map_toArray, List.map_cons, List.map_nil, e1]; (try simp [go_sem, e1]); try omega)
    · have e15 : a'.eval (.tmp 15) = .pointer (some ⟨B, 6, none⟩) := hI.eval (k := 12) (by decide) (hall ⟨12, .data⟩ (by simp) rfl)
      have e5 := hI.eval (k := 2) (d := 5) (by decide) (hall ⟨2, .data⟩ (by simp) rfl)
      generalize hv : a'.eval (.tmp 5) = v at e5
      have hon : wz.ownsRow (B + 2) 72 21 v r.ports.length r.ports.flatten := e5
      obtain ⟨⟨u0, hcl⟩, hfz⟩ := hW.there hrl 6 (by omega)
      refine wp_skip (w' := wz.setCell ⟨B, 6, none⟩ v) ?_ (VT.pass hI (by decide) (hW.store0 hrl hon (hall ⟨1, .phase⟩ (by simp) rfl)) (Kept.setOne _ _ _ _) hex)
      rcases owns_form hon with rfl | ⟨g, cap, rfl⟩
      · (unfold execOp; simp only [List.map_toArray, List.map_cons, List.map_nil, e15, hv, hcl, hfz]; (try simp [go_sem, e15, hv, hcl, hfz]); try omega)
      · (unfold execOp; simp only [List.map_toArray, List.map_cons, List.map_nil, e15, hv, hcl, hfz]; (try simp [go_sem, e15, hv, hcl, hfz]); try omega)
    · have e1 : a'.eval (.tmp 1) = .pointer (some ⟨B, 0, none⟩) := hI.old (by decide)
      refine wp_value (w' := wz) ?_ (VT.step hI (d := 16) (by kernel_rfl) (by decide) rfl (RW.step 14 (by decide) (by decide) (by decide) (by decide) hW (Kept.refl _ _)) (Kept.refl _ _) hex)
      (unfold execOp; simp only [List.map_toArray, List.map_cons, List.map_nil, e1]; (try simp [go_sem, e1]); try omega)
    · have e16 : a'.eval (.tmp 16) = .pointer (some ⟨B, 7, none⟩) := hI.eval (k := 14) (by decide) (hall ⟨14, .data⟩ (by simp) rfl)
      have e8 := hI.eval (k := 5) (d := 8) (by decide) (hall ⟨5, .data⟩ (by simp) rfl)
      generalize hv : a'.eval (.tmp 8) = v at e8
      have hon : wz.ownsRow (B + 2) 75 3 v r.vlans.length r.vlans.flatten := e8
      obtain ⟨⟨u0, hcl⟩, hfz⟩ := hW.there hrl 7 (by omega)
      refine wp_skip (w' := wz.setCell ⟨B, 7, none⟩ v) ?_ (VT.pass hI (by decide) (hW.store1 hrl hon (hall ⟨4, .phase⟩ (by simp) rfl)) (Kept.setOne _ _ _ _) hex)
      rcases owns_form hon with rfl | ⟨g, cap, rfl⟩
      · (unfold execOp; simp only [List.map_toArray, List.map_cons, List.map_nil, e16, hv, hcl, hfz]; (try simp [go_sem, e16, hv, hcl, hfz]); try omega)
      · (unfold execOp; simp only [List.map_toArray, List.map_cons, List.map_nil, e16, hv, hcl, hfz]; (try simp [go_sem, e16, hv, hcl, hfz]); try omega)
    · have e1 : a'.eval (.tmp 1) = .pointer (some ⟨B, 0, none⟩) := hI.old (by decide)
      refine wp_value (w' := wz) ?_ (VT.step hI (d := 17) (by kernel_rfl) (by decide) rfl (RW.step 16 (by decide) (by decide) (by decide) (by decide) hW (Kept.refl _ _)) (Kept.refl _ _) hex)
      (unfold execOp; simp only [List.map_toArray, List.map_cons, List.map_nil, e1]; (try simp [go_sem, e1]); try omega)
    · have e17 : a'.eval (.tmp 17) = .pointer (some ⟨B, 8, none⟩) := hI.eval (k := 16) (by decide) (hall ⟨16, .data⟩ (by simp) rfl)
      have e11 := hI.eval (k := 8) (d := 11) (by decide) (hall ⟨8, .data⟩ (by simp) rfl)
      generalize hv : a'.eval (.tmp 11) = v at e11
      have hon : wz.ownsRow (B + 2) 81 8 v r.stat.length r.stat.flatten := e11
      obtain ⟨⟨u0, hcl⟩, hfz⟩ := hW.there hrl 8 (by omega)
      refine wp_skip (w' := wz.setCell ⟨B, 8, none⟩ v) ?_ (VT.pass hI (by decide) (hW.store2 hrl hon (hall ⟨7, .phase⟩ (by simp) rfl)) (Kept.setOne _ _ _ _) hex)
      rcases owns_form hon with rfl | ⟨g, cap, rfl⟩
      · (unfold execOp; simp only [List.map_toArray, List.map_cons, List.map_nil, e17, hv, hcl, hfz]; (try simp [go_sem, e17, hv, hcl, hfz]); try omega)
      · (unfold execOp; simp only [List.map_toArray, List.map_cons, List.map_nil, e17, hv, hcl, hfz]; (try simp [go_sem, e17, hv, hcl, hfz]); try omega)
    · have e1 : a'.eval (.tmp 1) = .pointer (some ⟨B, 0, none⟩) := hI.old (by decide)
      refine wp_value (w' := wz) ?_ (VT.step hI (d := 18) (by kernel_rfl) (by decide) rfl (RW.step 18 (by decide) (by decide) (by decide) (by decide) hW (Kept.refl _ _)) (Kept.refl _ _) hex)
      (unfold execOp; simp only [List.map_toArray, List.map_cons, List.map_nil, e1]; (try simp [go_sem, e1]); try omega)
    · have e18 : a'.eval (.tmp 18) = .pointer (some ⟨B, 9, none⟩) := hI.eval (k := 18) (by decide) (hall ⟨18, .data⟩ (by simp) rfl)
      have e14 := hI.eval (k := 11) (d := 14) (by decide) (hall ⟨11, .data⟩ (by simp) rfl)
      generalize hv : a'.eval (.tmp 14) = v at e14
      have hon : wz.ownsRow (B + 2) 85 9 v r.fdb.length r.fdb.flatten := e14
      obtain ⟨⟨u0, hcl⟩, hfz⟩ := hW.there hrl 9 (by omega)
      refine wp_skip (w' := wz.setCell ⟨B, 9, none⟩ v) ?_ (VT.pass hI (by decide) (hW.store3 hrl hon (hall ⟨10, .phase⟩ (by simp) rfl)) (Kept.setOne _ _ _ _) hex)
      rcases owns_form hon with rfl | ⟨g, cap, rfl⟩
      · (unfold execOp; simp only [List.map_toArray, List.map_cons, List.map_nil, e18, hv, hcl, hfz]; (try simp [go_sem, e18, hv, hcl, hfz]); try omega)
      · (unfold execOp; simp only [List.map_toArray, List.map_cons, List.map_nil, e18, hv, hcl, hfz]; (try simp [go_sem, e18, hv, hcl, hfz]); try omega)
  · intro f a' wz hf hI
    obtain ⟨k1, k2, _, _, _, _, P, V, S, F, hb, q1, q2, q3, q4⟩ := hI.world
    have ho := hI.out
    have own : RecOwn (B + 2) wz r P V S F := ⟨q1.2 (hf 13 (by decide)), q2.2 (hf 15 (by decide)), q3.2 (hf 17 (by decide)), q4.2 (hf 19 (by decide))⟩
    have hz := hb2.kept k1 (fun e => by have e' : B + 1 = B := e; omega)
    have hk : Kept noB w wz := Kept.then hkw k1 (fun k hk e => by have e' : k = B := e; omega)
    clear hI hf q1 q2 q3 q4 hb1 hb2 k1 hkw hex r1 r2 r3 r4 hokP hokV hokS hokF
    simp only [clD, List.foldl_cons, List.foldl_nil] at ho
    generalize a'.tmps.getD 3 undef = y3 at *
    generalize a'.tmps.getD 4 undef = y4 at *
    generalize a'.tmps.getD 5 undef = y5 at *
    generalize a'.tmps.getD 6 undef = y6 at *
    generalize a'.tmps.getD 7 undef = y7 at *
    generalize a'.tmps.getD 8 undef = y8 at *
    generalize a'.tmps.getD 9 undef = y9 at *
    generalize a'.tmps.getD 10 undef = y10 at *
    generalize a'.tmps.getD 11 undef = y11 at *
    generalize a'.tmps.getD 12 undef = y12 at *
    generalize a'.tmps.getD 13 undef = y13 at *
    generalize a'.tmps.getD 14 undef = y14 at *
    generalize a'.tmps.getD 15 undef = y15 at *
    generalize a'.tmps.getD 16 undef = y16 at *
    generalize a'.tmps.getD 17 undef = y17 at *
    generalize a'.tmps.getD 18 undef = y18 at *
    subst ho
    simp only [List.setIfInBounds_toArray, List.set_cons_zero, List.set_cons_succ]
    have hl := recC_len hrl P V S F
    have h1c : (recC r P V S F).toArray.all (·.oneCell') = true := by
      rw [List.all_toArray, List.all_eq_true]
      exact recC_one hrl own
    generalize hds : recC r P V S F = ds at *
    have hs : (Try.prog.info? 63).map (·.size) = some ds.toArray.size := by rw [List.size_toArray, hl]; exact sizeR
    have hold : zeroR.toArray.size = ds.toArray.size := by rw [List.size_toArray, List.size_toArray, hl]; rfl
    have hres := hz.row ds
    have HRES := Lib.hid hres
    have HO := Lib.hid own
    have HK := Lib.hid (hk.setRow (g := B + 1) (fun h => by omega) ds.toArray)
    have HDS := Lib.hid hds
    have HBW := Lib.hid hB
    have own' : RecOwn B (wz.setRow (B + 1) ds.toArray) r P V S F := (own.keptB ((Kept.refl (oneB (B + 1)) wz).setRow (g := B + 1) (fun _ => rfl) _) (by omega)).base (by omega)
    have HO' := Lib.hid own'
    have HL2 := Lib.hid hl
    clear hres own hk hds hB own' hl hrl hrlP k2 hsz HO
    go_wp2_with (first | (refine wpList_load_row rfl _ _ rfl B rfl _ ds.toArray _ _ hb Try.underlying63 rfl hs ?_) | (refine wpList_store_row rfl _ _ _ rfl (B + 1) ds.toArray rfl rfl _ _ hz hs hold h1c ?_))
    refine bodyPost_ret (v := .agg ds.toArray) (results_cell_row rfl _ _ _ _ _ _ _ rfl HRES.out Try.underlying63 rfl hs) rfl ?_
    exact ⟨P, V, S, F, by rw [HDS.out], by rw [HBW.out] at *; exact HO'.out, HK.out⟩
end Go.Proofs.Ytngpfjmifaecjaa
