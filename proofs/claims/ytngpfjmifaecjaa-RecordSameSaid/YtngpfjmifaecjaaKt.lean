/- Small words that all walks of this seat use: what a call leaves as it was, a block that is known whole. No condition. -/
import Derived.Test.YtngpfjmifaecjaaProg
import Derived.Below
import Derived.WalkKit
import Derived.WalkSpells
import Derived.WalkLawsBesides
import Derived.Outline
import Derived.KernelRfl
import Derived.Deep.QuietTactic
import Derived.BigQuiet
import Derived.Deep.LoopGhost
import Derived.Deep.DeepCutAuto
import Derived.Deep.CutBlock
import Derived.Lib.Hide
import Derived.Lib.ConvBytes
import Derived.Laws.BytesArg
import Derived.Laws.MakeOwn
import Derived.Laws.OwnMore
import Derived.Laws.BitsAllLaws
import Derived.StillTailTactics
import Derived.Deep.RegionHeld3
import Derived.Deep.AppendLies
import Derived.Lib.QuietBelow
namespace Go.Proofs.Ytngpfjmifaecjaa
open Go.RowKit

/-- What a call leaves as it was: every block that was there, but those of S. -/
structure Kept (S : Nat → Prop) (w w' : World) : Prop where
  os : w'.os = w.os
  tape : w'.tape = w.tape
  output : w'.output = w.output
  size : w.heap.size ≤ w'.heap.size
  block : ∀ k, k < w.heap.size → ¬ S k → w'.heap[k]? = w.heap[k]?

def noB : Nat → Prop := fun _ => False
def oneB (g : Nat) : Nat → Prop := fun k => k = g

theorem Kept.refl (S : Nat → Prop) (w : World) : Kept S w w := ⟨rfl, rfl, rfl, Nat.le_refl _, fun _ _ _ => rfl⟩
theorem Kept.trans {S : Nat → Prop} {a b c : World} (h : Kept S a b) (k : Kept S b c) : Kept S a c :=
  ⟨k.os.trans h.os, k.tape.trans h.tape, k.output.trans h.output, Nat.le_trans h.size k.size,
    fun i hi hn => (k.block i (Nat.lt_of_lt_of_le hi h.size) hn).trans (h.block i hi hn)⟩
theorem Kept.mono {S S' : Nat → Prop} {w w' : World} (h : Kept S w w') (hs : ∀ k, k < w.heap.size → S k → S' k) : Kept S' w w' :=
  ⟨h.os, h.tape, h.output, h.size, fun k hk hn => h.block k hk (fun e => hn (hs k hk e))⟩
/-- behind a call that touches only what is new since w0, or in S -/
theorem Kept.then {S S' : Nat → Prop} {w0 w w' : World} (h : Kept S w0 w) (k : Kept S' w w') (hs : ∀ i, i < w0.heap.size → S' i → S i) : Kept S w0 w' :=
  ⟨k.os.trans h.os, k.tape.trans h.tape, k.output.trans h.output, Nat.le_trans h.size k.size,
    fun i hi hn => (k.block i (Nat.lt_of_lt_of_le hi h.size) (fun e => hn (hs i hi e))).trans (h.block i hi hn)⟩
theorem Kept.no {S : Nat → Prop} {w0 w w' : World} (h : Kept S w0 w) (k : Kept noB w w') : Kept S w0 w' := h.then k (fun _ _ e => e.elim)
theorem Kept.drew {S : Nat → Prop} {w0 w : World} (h : Kept S w0 w) : Kept S w0 w.drew := ⟨h.os, h.tape, h.output, h.size, h.block⟩
theorem Kept.drewN {S : Nat → Prop} {w0 w : World} (h : Kept S w0 w) (n : Nat) : Kept S w0 (w.drewN n) := ⟨h.os, h.tape, h.output, h.size, h.block⟩
theorem Kept.alloc {S : Nat → Prop} {w0 w : World} (h : Kept S w0 w) (o : Obj) : Kept S w0 (w.alloc o) :=
  h.no ⟨rfl, rfl, rfl, by simp, fun k hk _ => Below.heap_alloc _ _ _ hk⟩
theorem Kept.setCell {S : Nat → Prop} {w0 w : World} (h : Kept S w0 w) {p : Addr} (hp : p.block < w0.heap.size → S p.block) (u : Value) : Kept S w0 (w.setCell p u) :=
  ⟨h.os, h.tape, h.output, by simpa [World.setCell] using h.size, fun k hk hn =>
    (Below.heap_setCell _ _ _ _ (fun e => by subst e; exact hn (hp hk))).trans (h.block k hk hn)⟩
theorem Kept.setOne (w : World) (g o : Nat) (u : Value) : Kept (oneB g) w (w.setCell ⟨g, o, none⟩ u) :=
  (Kept.refl _ _).setCell (fun _ => (rfl : g = g)) _
theorem Kept.below {w w' : World} (h : Kept noB w w') : Below w.heap.size w w' := ⟨h.os, h.tape, h.output, h.size, fun k hk => h.block k hk (fun e => e)⟩
theorem Kept.of_below {w w' : World} (h : Below w.heap.size w w') : Kept noB w w' := ⟨h.os, h.tape, h.output, h.size, fun k hk _ => h.block k hk⟩
theorem Kept.cell {S : Nat → Prop} {w w' : World} (h : Kept S w w') {p : Addr} {v : Value} (hc : w.cell? p = some v) (hn : ¬ S p.block) : w'.cell? p = some v :=
  (World.cell?_of_block (w := w) (h.block p.block (World.block_lt_of_cell? w p hc) hn)).trans hc
theorem Kept.grown {S : Nat → Prop} {w0 w w' : World} {row : Option Nat} (h : Kept S w0 w) (hg : w.grownBy w' row) (hr : ∀ k, row = some k → k < w0.heap.size → S k) : Kept S w0 w' :=
  ⟨hg.os.trans h.os, hg.tape.trans h.tape, hg.output.trans h.output, Nat.le_trans h.size hg.size,
    fun k hk hn => (hg.block k (Nat.lt_of_lt_of_le hk h.size) (fun e => hn (hr k e.symm hk))).trans (h.block k hk hn)⟩

/-- a block that is known whole -/
def Blk (w : World) (g : Nat) (T : TypeId) (cs : List Value) : Prop := w.heap[g]? = some (.cells cs.toArray T (0, 0))
theorem Blk.lt {w : World} {g : Nat} {T : TypeId} {cs : List Value} (h : Blk w g T cs) : g < w.heap.size := (Array.getElem?_eq_some_iff.1 h).1
theorem Blk.cell {w : World} {g : Nat} {T : TypeId} {cs : List Value} (h : Blk w g T cs) (o : Nat) : w.cell? ⟨g, o, none⟩ = cs[o]? := by
  unfold Blk at h
  simp [World.cell?, h]
theorem Blk.frozen {w : World} {g : Nat} {T : TypeId} {cs : List Value} (h : Blk w g T cs) (o : Nat) : w.frozen? ⟨g, o, none⟩ = false := by
  unfold Blk at h
  simp [World.frozen?, h]
theorem Blk.kept {S : Nat → Prop} {w w' : World} {g : Nat} {T : TypeId} {cs : List Value} (h : Blk w g T cs) (hk : Kept S w w') (hn : ¬ S g) : Blk w' g T cs :=
  (hk.block g h.lt hn).trans h
theorem Blk.drew {w : World} {g : Nat} {T : TypeId} {cs : List Value} (h : Blk w g T cs) : Blk w.drew g T cs := h
theorem Blk.alloc {w : World} {g : Nat} {T : TypeId} {cs : List Value} (h : Blk w g T cs) (o : Obj) : Blk (w.alloc o) g T cs :=
  (Below.heap_alloc w o g h.lt).trans h
theorem Blk.new (w : World) (T : TypeId) (cs : List Value) : Blk (w.alloc (.cells cs.toArray T)) w.heap.size T cs := heap_alloc_new w _
theorem Blk.far {w : World} {g : Nat} {T : TypeId} {cs : List Value} (h : Blk w g T cs) {p : Addr} (hne : g ≠ p.block) (u : Value) : Blk (w.setCell p u) g T cs :=
  (Below.heap_setCell w p u g hne).trans h
theorem Blk.set {w : World} {g : Nat} {T : TypeId} {cs : List Value} (h : Blk w g T cs) (o : Nat) (u : Value) : Blk (w.setCell ⟨g, o, none⟩ u) g T (cs.set o u) := by
  have h' := heap_setCell_same w g o cs.toArray T u h
  unfold Blk
  rw [h']
  simp
theorem Kept.setRow {S : Nat → Prop} {w0 w : World} (h : Kept S w0 w) {g : Nat} (hp : g < w0.heap.size → S g) (cs : Array Value) : Kept S w0 (w.setRow g cs) :=
  ⟨h.os, h.tape, h.output, by simpa using h.size, fun k hk hn => (setRow_other w g k cs (fun e => by subst e; exact hn (hp hk))).trans (h.block k hk hn)⟩
theorem Blk.row {w : World} {g : Nat} {T : TypeId} {cs : List Value} (h : Blk w g T cs) (cs' : List Value) : Blk (w.setRow g cs'.toArray) g T cs' := setRow_heap w g _ _ T _ h
theorem Blk.rowFar {w : World} {g g' : Nat} {T : TypeId} {cs : List Value} (h : Blk w g T cs) (hne : g ≠ g') (cs' : Array Value) : Blk (w.setRow g' cs') g T cs := (setRow_other w g' g cs' hne).trans h
/-- a block whose first cells are known, and may be written -/
def Pre (w : World) (g : Nat) (T : TypeId) (cs : List Value) : Prop := ∃ rest fr, w.heap[g]? = some (.cells (cs ++ rest).toArray T fr) ∧ cs.length ≤ fr.1
theorem Pre.lt {w : World} {g : Nat} {T : TypeId} {cs : List Value} (h : Pre w g T cs) : g < w.heap.size := by
  obtain ⟨r, fr, h, _⟩ := h
  exact (Array.getElem?_eq_some_iff.1 h).1
theorem Pre.cell {w : World} {g : Nat} {T : TypeId} {cs : List Value} (h : Pre w g T cs) (o : Nat) (ho : o < cs.length) : w.cell? ⟨g, o, none⟩ = cs[o]? := by
  obtain ⟨r, fr, h, _⟩ := h
  simp [World.cell?, h, ho, List.getElem?_append_left ho]
theorem Pre.frozen {w : World} {g : Nat} {T : TypeId} {cs : List Value} (h : Pre w g T cs) (o : Nat) (ho : o < cs.length) : w.frozen? ⟨g, o, none⟩ = false := by
  obtain ⟨r, fr, h, hf⟩ := h
  obtain ⟨a, b⟩ := fr
  have : ¬ a ≤ o := by simp at hf; omega
  simp [World.frozen?, h, this]
theorem Pre.kept {S : Nat → Prop} {w w' : World} {g : Nat} {T : TypeId} {cs : List Value} (h : Pre w g T cs) (hk : Kept S w w') (hn : ¬ S g) : Pre w' g T cs := by
  have hl := h.lt
  obtain ⟨r, fr, h, hf⟩ := h
  exact ⟨r, fr, (hk.block g hl hn).trans h, hf⟩
theorem Pre.drewN {w : World} {g : Nat} {T : TypeId} {cs : List Value} (h : Pre w g T cs) (n : Nat) : Pre (w.drewN n) g T cs := h
theorem Pre.alloc {w : World} {g : Nat} {T : TypeId} {cs : List Value} (h : Pre w g T cs) (o : Obj) : Pre (w.alloc o) g T cs := by
  have hl := h.lt
  obtain ⟨r, fr, h, hf⟩ := h
  exact ⟨r, fr, (Below.heap_alloc w o g hl).trans h, hf⟩
theorem Pre.set {w : World} {g : Nat} {T : TypeId} {cs : List Value} (h : Pre w g T cs) (o : Nat) (ho : o < cs.length) (u : Value) : Pre (w.setCell ⟨g, o, none⟩ u) g T (cs.set o u) := by
  obtain ⟨r, fr, h, hf⟩ := h
  refine ⟨r, fr, ?_, by simpa using hf⟩
  rw [setCell_eq_setRow w g o _ T fr u h, setRow_heap w g _ _ T fr h]
  simp [List.set_append_left _ _ ho]
/-- a slice's elements, where it owns its whole block -/
theorem Blk.owns {w : World} {g : Nat} {T : TypeId} {cs : List Value} (h : Blk w g T cs) (base n : Nat) (hb : base ≤ g) (hn : cs.length = n) (hm : n ≤ maxLen) :
    w.ownsRow base T 1 (.slice (some ⟨g, 0, none⟩) n n) n cs :=
  ⟨by omega, .inr ⟨g, n, cs.toArray, rfl, hb, h, Nat.le_refl _, hm, by simp [hn], by simp [← hn]⟩⟩
theorem madeBlk (w : World) (T : TypeId) (z : Value) (n : Nat) : Blk (w.alloc (.cells (madeCells #[z] n) T)) w.heap.size T (List.replicate n z) := by
  have h := Blk.new w T (madeCells #[z] n).toList
  rw [toList_madeCells_one] at h
  have e : (madeCells #[z] n) = (List.replicate n z).toArray := by rw [← toList_madeCells_one]
  rw [e]
  exact h

/-! ### a region that draws its order, whose callees make memory but turn none -/
open Go.Sort in
theorem Kept.regrown (w : World) (d : Nat) (os : Array Obj) : Kept noB w (grow (redrawn w d) os) := Kept.of_below (below_regrown w d os)
open Go.Sort in
theorem Calls.qkept {P : Program} {f : FuncId} {args : Array Value} {w : World} {v : Value}
    (h : ∀ w1, Kept noB w w1 → Calls P f args w1 fun e w' => e = .returned v ∧ Kept noB w1 w') :
    ∀ d os, Calls P f args (grow (redrawn w d) os) fun e w'' => e = .returned v ∧ ∃ p : Regrown, w'' = grow (redrawn w p.d) p.os := fun d os =>
  Calls.regrown_of ((h _ (Kept.regrown w d os)).mono fun _ _ ⟨he, hk⟩ => ⟨he, hk.below⟩)
end Go.Proofs.Ytngpfjmifaecjaa
