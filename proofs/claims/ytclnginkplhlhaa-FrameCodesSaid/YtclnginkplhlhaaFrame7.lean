/- The walk of frame.Decode: the first addresses. Condition: the text's length. -/
import Derived.Test.YtclnginkplhlhaaFrame6
import Derived.Test.YtclnginkplhlhaaByB
import Derived.Test.YtclnginkplhlhaaRegInv
namespace Go.Proofs.Ytclnginkplhlhaa
open Go.RowKit
/-- a frame of two addresses alone -/
def frHalf (a0 a1 a2 a3 a4 a5 b0 b1 b2 b3 b4 b5 : UInt8) : Fr := ⟨a0, a1, a2, a3, a4, a5, b0, b1, b2, b3, b4, b5, false, 0, false, 0, 0, []⟩
/-- what holds of the slots of the region in which both addresses are read -/
def decS (H r : Nat) (A B : List UInt8) (x : Fr) : Nat → (Nat → Bool) → World → Value → Prop
  | 0, _, _, v => v = .pointer (some ⟨r, 0, none⟩)
  | 1, _, _, v => v = .string (bs A)
  | 2, f, w, v => f 3 = false → ∃ g c, v = .slice (some ⟨g, 0, none⟩) 6 c ∧ ByB w g A ∧ H ≤ g ∧ g ≠ r
  | 3, f, w, v => f 4 = false → ∃ g, v = .pointer (some ⟨g, 0, none⟩) ∧ ByB w g A ∧ H ≤ g ∧ g ≠ r
  | 4, _, _, v => v = .agg (vb A).toArray
  | 5, _, _, v => v = .pointer (some ⟨r, 0, none⟩)
  | 6, _, _, v => v = .string (bs B)
  | 7, f, w, v => f 8 = false → ∃ g c, v = .slice (some ⟨g, 0, none⟩) 6 c ∧ ByB w g B ∧ H ≤ g ∧ g ≠ r
  | 8, f, w, v => f 9 = false → ∃ g, v = .pointer (some ⟨g, 0, none⟩) ∧ ByB w g B ∧ H ≤ g ∧ g ≠ r
  | 9, _, _, v => v = .agg (vb B).toArray
  | 10, _, _, v => v = .agg (frC x).toArray
  | 11, f, w, v => ∃ g, v = .pointer (some ⟨g, 0, none⟩) ∧ H ≤ g ∧ g ≠ r ∧ Blk w g 46 (if f 12 then frC x else frC Fr.zero)
  | _, _, _, _ => True
def decW (w0 : World) (r z : Nat) (A B rs : List UInt8) (f : Nat → Bool) (w : World) : Prop :=
  RdS w0 w r (if f 6 then rs else if f 1 then B ++ rs else A ++ (B ++ rs)) false ∧ Blk w z 46 (frC Fr.zero) ∧ (f 6 = true → f 1 = true) ∧ (f 12 = true → f 11 = true)
theorem ByB.kept {S : Nat → Prop} {w w' : World} {g : Nat} {l : List UInt8} (h : ByB w g l) (hk : Kept S w w') (hn : ¬ S g) : ByB w' g l := Pre.kept h hk hn
theorem decW_kept {w0 w w' : World} {r z : Nat} {A B rs : List UInt8} {f : Nat → Bool} {i : Nat} (h1 : i ≠ 1) (h6 : i ≠ 6) (h12 : i ≠ 12) (h : decW w0 r z A B rs f w) (hk : Kept noB w w') : decW w0 r z A B rs (fun j => decide (j = i) || f j) w' := by
  obtain ⟨a, b, c, d⟩ := h
  refine ⟨?_, b.kept hk (fun e => e), ?_, ?_⟩
  · simp only [show decide (6 = i) = false by simp [Ne.symm h6], show decide (1 = i) = false by simp [Ne.symm h1], Bool.false_or]
    exact a.kept hk
  · simp only [show decide (6 = i) = false by simp [Ne.symm h6], show decide (1 = i) = false by simp [Ne.symm h1], Bool.false_or]
    exact c
  · intro h
    simp only [show decide (12 = i) = false by simp [Ne.symm h12], Bool.false_or] at h
    simp [d h]
theorem upd_false {f : Nat → Bool} {i k : Nat} (h : (decide (k = i) || f k) = false) : f k = false := by simp at h; exact h.2
theorem decS_kept {H r : Nat} {A B : List UInt8} {x : Fr} {f : Nat → Bool} {w w' : World} {i : Nat} (hi : i ≠ 12) (hk : Kept (oneB r) w w') (k : Nat) (v : Value)
    (h : decS H r A B x k f w v) : decS H r A B x k (fun j => decide (j = i) || f j) w' v := by
  have e12 : (decide (12 = i) || f 12) = f 12 := by simp [Ne.symm hi]
  match k, h with
  | 0, h => exact h
  | 1, h => exact h
  | 2, h => exact fun h4 => by obtain ⟨g, c, e, hb, hg, hr⟩ := h (upd_false h4); exact ⟨g, c, e, hb.kept hk hr, hg, hr⟩
  | 3, h => exact fun h4 => by obtain ⟨g, e, hb, hg, hr⟩ := h (upd_false h4); exact ⟨g, e, hb.kept hk hr, hg, hr⟩
  | 4, h => exact h
  | 5, h => exact h
  | 6, h => exact h
  | 7, h => exact fun h4 => by obtain ⟨g, c, e, hb, hg, hr⟩ := h (upd_false h4); exact ⟨g, c, e, hb.kept hk hr, hg, hr⟩
  | 8, h => exact fun h4 => by obtain ⟨g, e, hb, hg, hr⟩ := h (upd_false h4); exact ⟨g, e, hb.kept hk hr, hg, hr⟩
  | 9, h => exact h
  | 10, h => exact h
  | 11, h =>
    obtain ⟨g, e, hg, hr, hb⟩ := h
    refine ⟨g, e, hg, hr, ?_⟩
    simp only [e12]
    exact hb.kept hk hr
  | k + 12, h => exact h
theorem frSize6 : (Try.prog.info? 44).map (·.size) = some 6 := by kernel_rfl
theorem run_arrayAt (a : Addr) (c : Nat) (w : World) : (Instr.arrayAt 44 (.slice (some a) 6 c)).run Try.prog w = .ok (.pointer (some a)) w := by
  unfold Instr.arrayAt
  rw [Sem.run_bind, run_underlying Try.underlying44 w]
  rfl
theorem run_build2 (a0 a1 a2 a3 a4 a5 b0 b1 b2 b3 b4 b5 : UInt8) (w : World) : (Instr.build 46 #[(0, .agg (vb [a0, a1, a2, a3, a4, a5]).toArray), (1, .agg (vb [b0, b1, b2, b3, b4, b5]).toArray)]).run Try.prog w = .ok (.agg (frC (frHalf a0 a1 a2 a3 a4 a5 b0 b1 b2 b3 b4 b5)).toArray) w := by
  kernel_rfl
theorem run_allocF (w : World) : (Instr.alloc 46 true (.tuple #[])).run Try.prog w = .ok (.pointer (some ⟨w.heap.size, 0, none⟩)) (w.alloc (.cells (frC Fr.zero).toArray 46)) := by
  kernel_rfl
theorem range_of_byB {w : World} {g : Nat} {l : List UInt8} (h : ByB w g l) : w.rangeAt g 0 (vb l) := fun j v hv => by
  have hj : j < (vb l).length := (List.getElem?_eq_some_iff.1 hv).1
  rw [Nat.zero_add, Pre.cell h j hj, hv]
/-- two results, the first one a whole struct out of its cell -/
theorem results_cell_tmp {P : Program} {fn : Func} {p q : Tmp} {ty : TypeId} (h : fn.results = #[.cell p ty, .tmp q]) (tmps : Array Value) (w : World) (g : Nat) (t : TypeId) (cs : Array Value) (fr : Nat × Nat) (d : TypeDesc) (v : Value)
    (hp : tmps.getD p undef = .pointer (some ⟨g, 0, none⟩)) (hq : tmps.getD q undef = v) (hg : w.heap[g]? = some (.cells cs t fr))
    (hu : P.underlying ty = some d) (hd : (match d with | .struct _ | .array _ _ => true | _ => false) = true) (hi : (P.info? ty).map (·.size) = some cs.size) :
    (results fn tmps).run P w = .ok (.tuple #[.agg cs, v]) w := by
  have hp' : tmps[p]?.getD undef = .pointer (some ⟨g, 0, none⟩) := by simpa using hp
  have hq' : tmps[q]?.getD undef = v := by simpa using hq
  simp [results, h, hp', hq', asAddr, run_loadVar_row w g t ty cs fr d hg hu hd hi]
/-- 'Frame{}' -/
theorem wpList_build_zero {ops : Array Oper} {rest : List Oper} {o : Oper} {a : Act} {w : World} {Q : Exit → Act → World → Prop} (hgd : o.guard = none) (ho : o.op = .build 46 #[])
    (h : wpList Try.prog ops Q rest (a.put o.dst (.agg (frC Fr.zero).toArray)) w) : wpList Try.prog ops Q (o :: rest) a w :=
  wpList_plain hgd fun _ hK => by
    have hb : (Instr.build 46 #[]).run Try.prog w = .ok (.agg (frC Fr.zero).toArray) w := by kernel_rfl
    have hr : (execOp a.eval o).run Try.prog w = .ok (.value (.agg (frC Fr.zero).toArray)) w := by
      unfold execOp
      rw [ho]
      simp only [List.map_toArray, List.map_nil]
      exact run_val hb
    exact wp_value hr (hK _ _ h)
theorem size_agg6 (l : List UInt8) (h : l.length = 6) : (Try.prog.info? 44).map (·.size) = some (vb l).length := by rw [frSize6, vb_length, h]
end Go.Proofs.Ytclnginkplhlhaa
