/- Words of RecordSame: the clone, of which a cell may be turned. No condition. (Printed by wip/mkrec11c.py.) -/
import Derived.Test.YtngpfjmifaecjaaRec11p
import Derived.Test.YtngpfjmifaecjaaRec10
namespace Go.Proofs.Ytngpfjmifaecjaa
open Go.RowKit
theorem xor_one (k : IntKind) (hk : k = .i64 ∨ k = .u16 ∨ k = .u32) (x : Int) : bits .xor k x 1 ≠ x := by
  intro h
  have h1 : BitVec.ofInt k.bits (bits .xor k x 1) = BitVec.ofInt k.bits x ^^^ BitVec.ofInt k.bits 1 := by
    rcases hk with rfl | rfl | rfl
    · apply BitVec.eq_of_toInt_eq
      have hb := (BitVec.ofInt 64 x ^^^ BitVec.ofInt 64 1).isLt
      show (BitVec.ofInt 64 (IntKind.i64.wrap ((BitVec.ofInt 64 x ^^^ BitVec.ofInt 64 1).toNat : Int))).toInt = (BitVec.ofInt 64 x ^^^ BitVec.ofInt 64 1).toInt
      rw [BitVec.toInt_ofInt, BitVec.toInt_eq_toNat_bmod]
      generalize (BitVec.ofInt 64 x ^^^ BitVec.ofInt 64 1).toNat = n at *
      rw [IntKind.wrap_i64]
      simp only [Int.bmod_def]
      omega
    · apply BitVec.eq_of_toNat_eq
      have := (BitVec.ofInt 16 x ^^^ BitVec.ofInt 16 1).isLt
      show (BitVec.ofInt 16 (IntKind.u16.wrap ((BitVec.ofInt 16 x ^^^ BitVec.ofInt 16 1).toNat : Int))).toNat = (BitVec.ofInt 16 x ^^^ BitVec.ofInt 16 1).toNat
      generalize (BitVec.ofInt 16 x ^^^ BitVec.ofInt 16 1).toNat = n at *
      rw [IntKind.wrap_u16, BitVec.toNat_ofInt]
      omega
    · apply BitVec.eq_of_toNat_eq
      have := (BitVec.ofInt 32 x ^^^ BitVec.ofInt 32 1).isLt
      show (BitVec.ofInt 32 (IntKind.u32.wrap ((BitVec.ofInt 32 x ^^^ BitVec.ofInt 32 1).toNat : Int))).toNat = (BitVec.ofInt 32 x ^^^ BitVec.ofInt 32 1).toNat
      generalize (BitVec.ofInt 32 x ^^^ BitVec.ofInt 32 1).toNat = n at *
      rw [IntKind.wrap_u32, BitVec.toNat_ofInt]
      omega
  rw [h] at h1
  have h2 : BitVec.ofInt k.bits x ^^^ BitVec.ofInt k.bits x = BitVec.ofInt k.bits x ^^^ (BitVec.ofInt k.bits x ^^^ BitVec.ofInt k.bits 1) := by rw [← h1]
  rw [← BitVec.xor_assoc, BitVec.xor_self, BitVec.zero_xor] at h2
  rcases hk with rfl | rfl | rfl <;> revert h2 <;> decide
/-- a region that reads, and stores one cell -/
structure ScW (w0 : World) (ist ir : Nat) (ad : Addr) (v : Value) (f : Nat → Bool) (w : World) : Prop where
  old : f ist = false → w = w0
  new : f ist = true → w = w0.setCell ad v
  reads : f ist = true → ∀ j, j < ir → f j = true
theorem ScW.start (w0 : World) (ist ir : Nat) (ad : Addr) (v : Value) : ScW w0 ist ir ad v (fun _ => false) w0 := ⟨fun _ => rfl, (fun e => by cases e), (fun e => by cases e)⟩
theorem ScW.step {w0 w : World} {ist ir i : Nat} {ad : Addr} {v : Value} {f : Nat → Bool} (h : ScW w0 ist ir ad v f w) (hi : i ≠ ist) : ScW w0 ist ir ad v (fun j => decide (j = i) || f j) w := by
  refine ⟨?_, ?_, ?_⟩
  all_goals simp only [upd_ne' hi]
  · exact h.old
  · exact h.new
  · exact fun e j hj => upd_le' (h.reads e j hj)
theorem ScW.before {w0 w : World} {ist ir i : Nat} {ad : Addr} {v : Value} {f : Nat → Bool} (h : ScW w0 ist ir ad v f w) (hi : i < ir) (hf : f i = false) : w = w0 := by
  cases hx : f ist with
  | false => exact h.old hx
  | true => rw [h.reads hx i hi] at hf; cases hf
theorem ScW.store {w0 w : World} {ist ir : Nat} {ad : Addr} {v : Value} {f : Nat → Bool} (h : ScW w0 ist ir ad v f w) (hf : f ist = false) (hall : ∀ j, j < ir → f j = true) : ScW w0 ist ir ad v (fun j => decide (j = ist) || f j) (w.setCell ad v) :=
  ⟨(fun e => by simp at e), fun _ => by rw [h.old hf], fun _ j hj => upd_le' (hall j hj)⟩
def noE (_ : Nat) (_ : World) (_ : Value) : Prop := True
theorem noE_kept (i : Nat) (w w' : World) (v : Value) (_ : Kept noB w w') (_ : noE i w v) : noE i w' v := trivial
/-- the clone: it is as it was, or turned -/
def ChAt (r : Rec) (H X9 a : Nat) (P V S F : Value) (j : Nat) (ch : Bool) (w : World) : Prop :=
  ∃ c, c.ok ∧ (ch = false → c = r) ∧ (ch = true → a % 4 < j ∧ sameR r c = false) ∧ Blk w X9 63 (recC c P V S F) ∧ RecOwn H w c P V S F ∧ c.ports.length = r.ports.length ∧ c.vlans.length = r.vlans.length ∧ c.stat.length = r.stat.length ∧ c.fdb.length = r.fdb.length
theorem ChAt.start {r : Rec} {H X9 a : Nat} {P V S F : Value} {w : World} (h : StAt w X9 r P V S F) (ho : RecOwn H w r P V S F) : ChAt r H X9 a P V S F 0 false w :=
  ⟨r, h.ok, fun _ => rfl, (fun e => by cases e), h.blk, ho, rfl, rfl, rfl, rfl⟩
theorem ChAt.kept {r : Rec} {H X9 a j : Nat} {P V S F : Value} {ch : Bool} {w w' : World} (h : ChAt r H X9 a P V S F j ch w) (hk : Kept noB w w') : ChAt r H X9 a P V S F j ch w' := by
  obtain ⟨c, h1, h2, h3, h4, h5, h6⟩ := h
  exact ⟨c, h1, h2, h3, h4.kept hk (fun e => e), h5.kept hk, h6⟩
theorem ChAt.up {r : Rec} {H X9 a j : Nat} {P V S F : Value} {ch : Bool} {w : World} (h : ChAt r H X9 a P V S F j ch w) : ChAt r H X9 a P V S F (j + 1) ch w := by
  obtain ⟨c, h1, h2, h3, h4⟩ := h
  exact ⟨c, h1, h2, fun e => ⟨Nat.lt_succ_of_lt (h3 e).1, (h3 e).2⟩, h4⟩
theorem ChAt.lt {r : Rec} {H X9 a j : Nat} {P V S F : Value} {ch : Bool} {w : World} (h : ChAt r H X9 a P V S F j ch w) : X9 < w.heap.size := by
  obtain ⟨c, h1, h2, h3, h4, h5⟩ := h
  exact h4.lt
theorem ChAt.not {r : Rec} {H X9 a : Nat} {P V S F : Value} {ch : Bool} {w : World} (h : ChAt r H X9 a P V S F (a % 4) ch w) : ch = false := by
  obtain ⟨c, h1, h2, h3, h4⟩ := h
  cases ch with
  | false => rfl
  | true => exact absurd (h3 rfl).1 (Nat.lt_irrefl _)

theorem ChAt.cellP {r : Rec} {H X9 a j : Nat} {P V S F : Value} {ch : Bool} {w : World} (h : ChAt r H X9 a P V S F j ch w) : w.cell? ⟨X9, 6, none⟩ = some P := by
  obtain ⟨c, h1, h2, h3, h4, h5⟩ := h
  exact (h4.cell 6).trans (recC_6 h1 _ _ _ _)
theorem ChAt.rowP {r : Rec} {H X9 a j g k n cap off : Nat} {P V S F : Value} {w : World} {p : List Value} {u : Value} (h : ChAt r H X9 a P V S F j false w) (e : P = .slice (some ⟨g, 0, none⟩) n cap) (hp : r.ports[k]? = some p) (hu : p[off]? = some u) :
    w.cell? ⟨g, k * 21 + off, none⟩ = some u ∧ w.frozen? ⟨g, k * 21 + off, none⟩ = false := by
  subst e
  obtain ⟨c, h1, h2, h3, h4, h5⟩ := h
  obtain rfl := h2 rfl
  have hl := fitsAll_len h1.ports
  obtain ⟨g', off', e', fr⟩ := (owns_rowsA h5.1.ports hl).1.get hp
  cases e'
  have hoff : off < 21 := by have := (List.getElem?_eq_some_iff.1 hu).1; rw [hl p (List.mem_of_getElem? hp)] at this; exact this
  refine ⟨?_, (owns_setCell h5.1.ports hl hp hoff u).2.2⟩
  have := fr off u hu
  rwa [Nat.zero_add] at this
theorem ChAt.turnP {r : Rec} {H X9 a j g k n cap off : Nat} {P V S F : Value} {w : World} {p : List Value} {u v : Value} {lf : Leaf} (h : ChAt r H X9 a P V S F j false w) (e : P = .slice (some ⟨g, 0, none⟩) n cap) (hp : r.ports[k]? = some p) (hu : p[off]? = some u) (hj : a % 4 = j) (hlf : ksP[off]? = some lf) (hv : lf.fit v) (hne : v ≠ u) :
    ChAt r H X9 a P V S F (j + 1) true (w.setCell ⟨g, k * 21 + off, none⟩ v) ∧ H ≤ g := by
  subst e
  obtain ⟨c, h1, h2, h3, h4, h5, h6⟩ := h
  obtain rfl := h2 rfl
  have hl := fitsAll_len h1.ports
  have hoff : off < 21 := by have := (List.getElem?_eq_some_iff.1 hu).1; rw [hl p (List.mem_of_getElem? hp)] at this; exact this
  have ho := owns_setCell h5.ports hl hp hoff v
  have hX : X9 ≠ g := fun e => owns_ne h5.ports h4 (by decide) (by rw [e]; rfl)
  have hk := Kept.setOne w g (k * 21 + off) v
  have hfp := fitsAll_get h1.ports hp
  have hfs := fits_set hfp hlf hv
  have hlen : (c.ports.set k (p.set off v)).length = c.ports.length := List.length_set
  refine ⟨⟨{ c with ports := c.ports.set k (p.set off v) }, ?_, (fun e => by cases e), fun _ => ⟨by omega, ?_⟩, ?_, ?_, ?_⟩, (h5.ports.lt g rfl).1⟩
  · exact { h1 with ports := fitsAll_set h1.ports hfs, l1 := by show (c.ports.set k (p.set off v)).length ≤ 1000; rw [hlen]; exact h1.l1 }
  · have := eqRows_set h1.ports hp hfs (set_ne hu hne)
    unfold sameR listsR
    simp only [this, Bool.false_and, Bool.and_false]
  · exact h4.far hX v
  · exact ⟨ho.1, owns_keptO h5.vlans hk (owns_apart h5.ports h5.vlans (by decide) rfl), owns_keptO h5.stat hk (owns_apart h5.ports h5.stat (by decide) rfl), owns_keptO h5.fdb hk (owns_apart h5.ports h5.fdb (by decide) rfl)⟩
  · refine ⟨hlen, rfl, rfl, rfl⟩
theorem ChAt.cellV {r : Rec} {H X9 a j : Nat} {P V S F : Value} {ch : Bool} {w : World} (h : ChAt r H X9 a P V S F j ch w) : w.cell? ⟨X9, 7, none⟩ = some V := by
  obtain ⟨c, h1, h2, h3, h4, h5⟩ := h
  exact (h4.cell 7).trans (recC_7 h1 _ _ _ _)
theorem ChAt.rowV {r : Rec} {H X9 a j g k n cap off : Nat} {P V S F : Value} {w : World} {p : List Value} {u : Value} (h : ChAt r H X9 a P V S F j false w) (e : V = .slice (some ⟨g, 0, none⟩) n cap) (hp : r.vlans[k]? = some p) (hu : p[off]? = some u) :
    w.cell? ⟨g, k * 3 + off, none⟩ = some u ∧ w.frozen? ⟨g, k * 3 + off, none⟩ = false := by
  subst e
  obtain ⟨c, h1, h2, h3, h4, h5⟩ := h
  obtain rfl := h2 rfl
  have hl := fitsAll_len h1.vlans
  obtain ⟨g', off', e', fr⟩ := (owns_rowsA h5.1.vlans hl).1.get hp
  cases e'
  have hoff : off < 3 := by have := (List.getElem?_eq_some_iff.1 hu).1; rw [hl p (List.mem_of_getElem? hp)] at this; exact this
  refine ⟨?_, (owns_setCell h5.1.vlans hl hp hoff u).2.2⟩
  have := fr off u hu
  rwa [Nat.zero_add] at this
theorem ChAt.turnV {r : Rec} {H X9 a j g k n cap off : Nat} {P V S F : Value} {w : World} {p : List Value} {u v : Value} {lf : Leaf} (h : ChAt r H X9 a P V S F j false w) (e : V = .slice (some ⟨g, 0, none⟩) n cap) (hp : r.vlans[k]? = some p) (hu : p[off]? = some u) (hj : a % 4 = j) (hlf : ksV[off]? = some lf) (hv : lf.fit v) (hne : v ≠ u) :
    ChAt r H X9 a P V S F (j + 1) true (w.setCell ⟨g, k * 3 + off, none⟩ v) ∧ H ≤ g := by
  subst e
  obtain ⟨c, h1, h2, h3, h4, h5, h6⟩ := h
  obtain rfl := h2 rfl
  have hl := fitsAll_len h1.vlans
  have hoff : off < 3 := by have := (List.getElem?_eq_some_iff.1 hu).1; rw [hl p (List.mem_of_getElem? hp)] at this; exact this
  have ho := owns_setCell h5.vlans hl hp hoff v
  have hX : X9 ≠ g := fun e => owns_ne h5.vlans h4 (by decide) (by rw [e]; rfl)
  have hk := Kept.setOne w g (k * 3 + off) v
  have hfp := fitsAll_get h1.vlans hp
  have hfs := fits_set hfp hlf hv
  have hlen : (c.vlans.set k (p.set off v)).length = c.vlans.length := List.length_set
  refine ⟨⟨{ c with vlans := c.vlans.set k (p.set off v) }, ?_, (fun e => by cases e), fun _ => ⟨by omega, ?_⟩, ?_, ?_, ?_⟩, (h5.vlans.lt g rfl).1⟩
  · exact { h1 with vlans := fitsAll_set h1.vlans hfs, l2 := by show (c.vlans.set k (p.set off v)).length ≤ 1000; rw [hlen]; exact h1.l2 }
  · have := eqRows_set h1.vlans hp hfs (set_ne hu hne)
    unfold sameR listsR
    simp only [this, Bool.false_and, Bool.and_false]
  · exact h4.far hX v
  · exact ⟨owns_keptO h5.ports hk (owns_apart h5.vlans h5.ports (by decide) rfl), ho.1, owns_keptO h5.stat hk (owns_apart h5.vlans h5.stat (by decide) rfl), owns_keptO h5.fdb hk (owns_apart h5.vlans h5.fdb (by decide) rfl)⟩
  · refine ⟨rfl, hlen, rfl, rfl⟩
theorem ChAt.cellS {r : Rec} {H X9 a j : Nat} {P V S F : Value} {ch : Bool} {w : World} (h : ChAt r H X9 a P V S F j ch w) : w.cell? ⟨X9, 8, none⟩ = some S := by
  obtain ⟨c, h1, h2, h3, h4, h5⟩ := h
  exact (h4.cell 8).trans (recC_8 h1 _ _ _ _)
theorem ChAt.rowS {r : Rec} {H X9 a j g k n cap off : Nat} {P V S F : Value} {w : World} {p : List Value} {u : Value} (h : ChAt r H X9 a P V S F j false w) (e : S = .slice (some ⟨g, 0, none⟩) n cap) (hp : r.stat[k]? = some p) (hu : p[off]? = some u) :
    w.cell? ⟨g, k * 8 + off, none⟩ = some u ∧ w.frozen? ⟨g, k * 8 + off, none⟩ = false := by
  subst e
  obtain ⟨c, h1, h2, h3, h4, h5⟩ := h
  obtain rfl := h2 rfl
  have hl := fitsAll_len h1.stat
  obtain ⟨g', off', e', fr⟩ := (owns_rowsA h5.1.stat hl).1.get hp
  cases e'
  have hoff : off < 8 := by have := (List.getElem?_eq_some_iff.1 hu).1; rw [hl p (List.mem_of_getElem? hp)] at this; exact this
  refine ⟨?_, (owns_setCell h5.1.stat hl hp hoff u).2.2⟩
  have := fr off u hu
  rwa [Nat.zero_add] at this
theorem ChAt.turnS {r : Rec} {H X9 a j g k n cap off : Nat} {P V S F : Value} {w : World} {p : List Value} {u v : Value} {lf : Leaf} (h : ChAt r H X9 a P V S F j false w) (e : S = .slice (some ⟨g, 0, none⟩) n cap) (hp : r.stat[k]? = some p) (hu : p[off]? = some u) (hj : a % 4 = j) (hlf : ksS[off]? = some lf) (hv : lf.fit v) (hne : v ≠ u) :
    ChAt r H X9 a P V S F (j + 1) true (w.setCell ⟨g, k * 8 + off, none⟩ v) ∧ H ≤ g := by
  subst e
  obtain ⟨c, h1, h2, h3, h4, h5, h6⟩ := h
  obtain rfl := h2 rfl
  have hl := fitsAll_len h1.stat
  have hoff : off < 8 := by have := (List.getElem?_eq_some_iff.1 hu).1; rw [hl p (List.mem_of_getElem? hp)] at this; exact this
  have ho := owns_setCell h5.stat hl hp hoff v
  have hX : X9 ≠ g := fun e => owns_ne h5.stat h4 (by decide) (by rw [e]; rfl)
  have hk := Kept.setOne w g (k * 8 + off) v
  have hfp := fitsAll_get h1.stat hp
  have hfs := fits_set hfp hlf hv
  have hlen : (c.stat.set k (p.set off v)).length = c.stat.length := List.length_set
  refine ⟨⟨{ c with stat := c.stat.set k (p.set off v) }, ?_, (fun e => by cases e), fun _ => ⟨by omega, ?_⟩, ?_, ?_, ?_⟩, (h5.stat.lt g rfl).1⟩
  · exact { h1 with stat := fitsAll_set h1.stat hfs, l3 := by show (c.stat.set k (p.set off v)).length ≤ 1000; rw [hlen]; exact h1.l3 }
  · have := eqRows_set h1.stat hp hfs (set_ne hu hne)
    unfold sameR listsR
    simp only [this, Bool.false_and, Bool.and_false]
  · exact h4.far hX v
  · exact ⟨owns_keptO h5.ports hk (owns_apart h5.stat h5.ports (by decide) rfl), owns_keptO h5.vlans hk (owns_apart h5.stat h5.vlans (by decide) rfl), ho.1, owns_keptO h5.fdb hk (owns_apart h5.stat h5.fdb (by decide) rfl)⟩
  · refine ⟨rfl, rfl, hlen, rfl⟩
theorem ChAt.cellF {r : Rec} {H X9 a j : Nat} {P V S F : Value} {ch : Bool} {w : World} (h : ChAt r H X9 a P V S F j ch w) : w.cell? ⟨X9, 9, none⟩ = some F := by
  obtain ⟨c, h1, h2, h3, h4, h5⟩ := h
  exact (h4.cell 9).trans (recC_9 h1 _ _ _ _)
theorem ChAt.rowF {r : Rec} {H X9 a j g k n cap off : Nat} {P V S F : Value} {w : World} {p : List Value} {u : Value} (h : ChAt r H X9 a P V S F j false w) (e : F = .slice (some ⟨g, 0, none⟩) n cap) (hp : r.fdb[k]? = some p) (hu : p[off]? = some u) :
    w.cell? ⟨g, k * 9 + off, none⟩ = some u ∧ w.frozen? ⟨g, k * 9 + off, none⟩ = false := by
  subst e
  obtain ⟨c, h1, h2, h3, h4, h5⟩ := h
  obtain rfl := h2 rfl
  have hl := fitsAll_len h1.fdb
  obtain ⟨g', off', e', fr⟩ := (owns_rowsA h5.1.fdb hl).1.get hp
  cases e'
  have hoff : off < 9 := by have := (List.getElem?_eq_some_iff.1 hu).1; rw [hl p (List.mem_of_getElem? hp)] at this; exact this
  refine ⟨?_, (owns_setCell h5.1.fdb hl hp hoff u).2.2⟩
  have := fr off u hu
  rwa [Nat.zero_add] at this
theorem ChAt.turnF {r : Rec} {H X9 a j g k n cap off : Nat} {P V S F : Value} {w : World} {p : List Value} {u v : Value} {lf : Leaf} (h : ChAt r H X9 a P V S F j false w) (e : F = .slice (some ⟨g, 0, none⟩) n cap) (hp : r.fdb[k]? = some p) (hu : p[off]? = some u) (hj : a % 4 = j) (hlf : ksF[off]? = some lf) (hv : lf.fit v) (hne : v ≠ u) :
    ChAt r H X9 a P V S F (j + 1) true (w.setCell ⟨g, k * 9 + off, none⟩ v) ∧ H ≤ g := by
  subst e
  obtain ⟨c, h1, h2, h3, h4, h5, h6⟩ := h
  obtain rfl := h2 rfl
  have hl := fitsAll_len h1.fdb
  have hoff : off < 9 := by have := (List.getElem?_eq_some_iff.1 hu).1; rw [hl p (List.mem_of_getElem? hp)] at this; exact this
  have ho := owns_setCell h5.fdb hl hp hoff v
  have hX : X9 ≠ g := fun e => owns_ne h5.fdb h4 (by decide) (by rw [e]; rfl)
  have hk := Kept.setOne w g (k * 9 + off) v
  have hfp := fitsAll_get h1.fdb hp
  have hfs := fits_set hfp hlf hv
  have hlen : (c.fdb.set k (p.set off v)).length = c.fdb.length := List.length_set
  refine ⟨⟨{ c with fdb := c.fdb.set k (p.set off v) }, ?_, (fun e => by cases e), fun _ => ⟨by omega, ?_⟩, ?_, ?_, ?_⟩, (h5.fdb.lt g rfl).1⟩
  · exact { h1 with fdb := fitsAll_set h1.fdb hfs, l4 := by show (c.fdb.set k (p.set off v)).length ≤ 1000; rw [hlen]; exact h1.l4 }
  · have := eqRows_set h1.fdb hp hfs (set_ne hu hne)
    unfold sameR listsR
    simp only [this, Bool.false_and, Bool.and_false]
  · exact h4.far hX v
  · exact ⟨owns_keptO h5.ports hk (owns_apart h5.fdb h5.ports (by decide) rfl), owns_keptO h5.vlans hk (owns_apart h5.fdb h5.vlans (by decide) rfl), owns_keptO h5.stat hk (owns_apart h5.fdb h5.stat (by decide) rfl), ho.1⟩
  · refine ⟨rfl, rfl, rfl, hlen⟩
theorem ChAt.formP {r : Rec} {H X9 a j n c : Nat} {A : Option Addr} {P V S F : Value} {ch : Bool} {w : World} (h : ChAt r H X9 a P V S F j ch w) (e : P = .slice A n c) (hn : 0 < n) : ∃ g, A = some ⟨g, 0, none⟩ := by
  obtain ⟨_, _, _, _, _, h5, _⟩ := h
  subst e
  rcases owns_form h5.ports with e | ⟨g, cap, e⟩
  · injection e with e1 e2 e3
    omega
  · injection e with e1 e2 e3
    exact ⟨g, e1⟩
theorem ChAt.formV {r : Rec} {H X9 a j n c : Nat} {A : Option Addr} {P V S F : Value} {ch : Bool} {w : World} (h : ChAt r H X9 a P V S F j ch w) (e : V = .slice A n c) (hn : 0 < n) : ∃ g, A = some ⟨g, 0, none⟩ := by
  obtain ⟨_, _, _, _, _, h5, _⟩ := h
  subst e
  rcases owns_form h5.vlans with e | ⟨g, cap, e⟩
  · injection e with e1 e2 e3
    omega
  · injection e with e1 e2 e3
    exact ⟨g, e1⟩
theorem ChAt.formS {r : Rec} {H X9 a j n c : Nat} {A : Option Addr} {P V S F : Value} {ch : Bool} {w : World} (h : ChAt r H X9 a P V S F j ch w) (e : S = .slice A n c) (hn : 0 < n) : ∃ g, A = some ⟨g, 0, none⟩ := by
  obtain ⟨_, _, _, _, _, h5, _⟩ := h
  subst e
  rcases owns_form h5.stat with e | ⟨g, cap, e⟩
  · injection e with e1 e2 e3
    omega
  · injection e with e1 e2 e3
    exact ⟨g, e1⟩
theorem ChAt.formF {r : Rec} {H X9 a j n c : Nat} {A : Option Addr} {P V S F : Value} {ch : Bool} {w : World} (h : ChAt r H X9 a P V S F j ch w) (e : F = .slice A n c) (hn : 0 < n) : ∃ g, A = some ⟨g, 0, none⟩ := by
  obtain ⟨_, _, _, _, _, h5, _⟩ := h
  subst e
  rcases owns_form h5.fdb with e | ⟨g, cap, e⟩
  · injection e with e1 e2 e3
    omega
  · injection e with e1 e2 e3
    exact ⟨g, e1⟩
end Go.Proofs.Ytngpfjmifaecjaa
