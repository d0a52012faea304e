/- A state of plain data that came in (layer 14's statements). No condition. (Printed by wip/mkrow14.py.) -/
import Derived.Test.YtngpfjmifaecjaaRows
import Derived.Test.YtngpfjmifaecjaaRowKt
import Derived.Test.YtngpfjmifaecjaaRowFits
import Derived.Test.YtngpfjmifaecjaaRec7
namespace Go.Proofs.Ytngpfjmifaecjaa
open Go.ChangeShapes Go.WideShapes Go.ChangeAt Go.RowKit
section
variable {H : Type} {enc : TypeId × Value → H} {W : World} {base : Nat} {sp : Nat → Bool} {held : Bool}
theorem wf16 {ks : List Leaf} {r : List Value} (h : fitsW ks r) {j : Nat} (hj : ks[j]? = some (.i .u16)) : 0 ≤ intAt r j ∧ intAt r j < 65536 := by
  obtain ⟨v, h1, n, rfl, hw⟩ := fitsW_get h hj
  have hb := bounds_u16 hw
  simp only [intAt, h1]
  omega
theorem cI0 : Try.prog.cellsOf 46 = 1 := by kernel_rfl
theorem cI1 : Try.prog.cellsOf 47 = 6 := by kernel_rfl
theorem cI2 : Try.prog.cellsOf 48 = 1 := by kernel_rfl
theorem cI3 : Try.prog.cellsOf 49 = 1 := by kernel_rfl
theorem cI4 : Try.prog.cellsOf 49 = 1 := by kernel_rfl
theorem cI5 : Try.prog.cellsOf 50 = 1 := by kernel_rfl
theorem cI6 : Try.prog.cellsOf 51 = 14 := by kernel_rfl
theorem cState : Try.prog.cellsOf 53 = 25 := by kernel_rfl
theorem lvU : leavesX Try.prog 3 46 = some [.i .u64] := by kernel_rfl
theorem lv6 : leavesX Try.prog 3 47 = some [.i .i64, .i .i64, .i .i64, .i .i64, .i .i64, .i .i64] := by kernel_rfl
theorem lv14 : leavesX Try.prog 3 51 = some ksN := by kernel_rfl
theorem lvT : leavesX Try.prog 4 107 = some ksT := by kernel_rfl
theorem lv3 : leavesX Try.prog 3 108 = some ks3 := by kernel_rfl
theorem lv4 : leavesX Try.prog 3 110 = some ks4 := by kernel_rfl
theorem cT : Try.prog.cellsOf 107 = ksT.length := by kernel_rfl
theorem c3r : Try.prog.cellsOf 108 = ks3.length := by kernel_rfl
theorem c4r : Try.prog.cellsOf 110 = ks4.length := by kernel_rfl
set_option maxRecDepth 100000 in
theorem inp_in {v : Value} {d : DataW H} {p : List MemPlace} {r : Reach} {b0 : Nat} (hv : Value.okWide Try.prog W r b0 53 v) (h : DataW.Trod enc Try.prog W base sp held 53 v d p) :
    ∃ x P V S F, v = .agg (inpC x P V S F).toArray ∧ x.ok ∧ InpAt W x P V S F := by
  obtain ⟨cs, rfl, hsz⟩ := okWide_struct Try.underlying53 hv
  obtain ⟨l⟩ := cs
  match l, hsz.trans cState with
  | [x0, x1, x2, x3, x4, x5, x6, x7, x8, x9, x10, x11, x12, x13, x14, x15, x16, x17, x18, x19, x20, x21, x22, x23, x24], _ =>
    obtain ⟨fuel, hf⟩ := h
    obtain ⟨xs, n, _, hx, _, hlen, hg⟩ := DataW.trod_struct Try.underlying53 hf
    have key : ∀ i, i < 7 → ∃ y, xs[i]? = some y := fun i hi => ⟨_, List.getElem?_eq_getElem (by rw [hlen]; exact hi)⟩
    have g0 : DataW.trod enc Try.prog W base sp held n 46 ((([x0, x1, x2, x3, x4, x5, x6, x7, x8, x9, x10, x11, x12, x13, x14, x15, x16, x17, x18, x19, x20, x21, x22, x23, x24] : List Value).drop 0).take (Try.prog.cellsOf 46)) = xs[0]? := hg 0 _ rfl
    have g1 : DataW.trod enc Try.prog W base sp held n 47 ((([x0, x1, x2, x3, x4, x5, x6, x7, x8, x9, x10, x11, x12, x13, x14, x15, x16, x17, x18, x19, x20, x21, x22, x23, x24] : List Value).drop 1).take (Try.prog.cellsOf 47)) = xs[1]? := hg 1 _ rfl
    have g2 : DataW.trod enc Try.prog W base sp held n 48 ((([x0, x1, x2, x3, x4, x5, x6, x7, x8, x9, x10, x11, x12, x13, x14, x15, x16, x17, x18, x19, x20, x21, x22, x23, x24] : List Value).drop 7).take (Try.prog.cellsOf 48)) = xs[2]? := hg 2 _ rfl
    have g3 : DataW.trod enc Try.prog W base sp held n 49 ((([x0, x1, x2, x3, x4, x5, x6, x7, x8, x9, x10, x11, x12, x13, x14, x15, x16, x17, x18, x19, x20, x21, x22, x23, x24] : List Value).drop 8).take (Try.prog.cellsOf 49)) = xs[3]? := hg 3 _ rfl
    have g4 : DataW.trod enc Try.prog W base sp held n 49 ((([x0, x1, x2, x3, x4, x5, x6, x7, x8, x9, x10, x11, x12, x13, x14, x15, x16, x17, x18, x19, x20, x21, x22, x23, x24] : List Value).drop 9).take (Try.prog.cellsOf 49)) = xs[4]? := hg 4 _ rfl
    have g5 : DataW.trod enc Try.prog W base sp held n 50 ((([x0, x1, x2, x3, x4, x5, x6, x7, x8, x9, x10, x11, x12, x13, x14, x15, x16, x17, x18, x19, x20, x21, x22, x23, x24] : List Value).drop 10).take (Try.prog.cellsOf 50)) = xs[5]? := hg 5 _ rfl
    have g6 : DataW.trod enc Try.prog W base sp held n 51 ((([x0, x1, x2, x3, x4, x5, x6, x7, x8, x9, x10, x11, x12, x13, x14, x15, x16, x17, x18, x19, x20, x21, x22, x23, x24] : List Value).drop 11).take (Try.prog.cellsOf 51)) = xs[6]? := hg 6 _ rfl
    obtain ⟨y0, e0⟩ := key 0 (by omega)
    rw [e0, cI0] at g0
    obtain ⟨y1, e1⟩ := key 1 (by omega)
    rw [e1, cI1] at g1
    obtain ⟨y2, e2⟩ := key 2 (by omega)
    rw [e2, cI2] at g2
    obtain ⟨y3, e3⟩ := key 3 (by omega)
    rw [e3, cI3] at g3
    obtain ⟨y4, e4⟩ := key 4 (by omega)
    rw [e4, cI4] at g4
    obtain ⟨y5, e5⟩ := key 5 (by omega)
    rw [e5, cI5] at g5
    obtain ⟨y6, e6⟩ := key 6 (by omega)
    rw [e6, cI6] at g6
    have f0 := trod_fits 3 _ _ lvU _ _ _ g0
    have f1 := trod_fits 3 _ _ lv6 _ _ _ g1
    have f6 := trod_fits 3 _ _ lv14 _ _ _ g6
    obtain ⟨A1, c1, r1, q1, _, m1, at1, w1⟩ := rows_in Try.underlying48 lvT cT (by decide) g2
    obtain ⟨A2, c2, r2, q2, _, m2, at2, w2⟩ := rows_in Try.underlying49 lv3 c3r (by decide) g3
    obtain ⟨A3, c3, r3, q3, _, m3, at3, w3⟩ := rows_in Try.underlying49 lv3 c3r (by decide) g4
    obtain ⟨A4, c4, r4, q4, _, m4, at4, w4⟩ := rows_in Try.underlying50 lv4 c4r (by decide) g5
    have e7 : x7 = .slice A1 r1.length c1 := (List.cons.inj q1).1
    have e8 : x8 = .slice A2 r2.length c2 := (List.cons.inj q2).1
    have e9 : x9 = .slice A3 r3.length c3 := (List.cons.inj q3).1
    have e10 : x10 = .slice A4 r4.length c4 := (List.cons.inj q4).1
    subst e7 e8 e9 e10
    refine ⟨⟨[x0, x1, x2, x3, x4, x5, x6], r1, r2, r3, r4, [x11, x12, x13, x14, x15, x16, x17, x18, x19, x20, x21, x22, x23, x24]⟩, _, _, _, _, rfl, ?_, ⟨⟨_, _, rfl, at1⟩, ⟨_, _, rfl, at2⟩, ⟨_, _, rfl, at3⟩, ⟨_, _, rfl, at4⟩⟩⟩
    refine ⟨⟨(fitsW_fits f0).1, fitsW_fits f1⟩, fitsW_fits f6, fun r hr => fitsW_fits (w1 r hr), fun r hr => fitsW_fits (w2 r hr), fun r hr => fitsW_fits (w3 r hr), fun r hr => fitsW_fits (w4 r hr), ?_, ?_, ?_, ?_, ?_, ?_, ?_⟩
    · intro r hr j hj
      have hw := w2 r hr
      rcases (by omega : j = 0 ∨ j = 1 ∨ j = 2) with rfl | rfl | rfl <;> exact wf16 hw rfl
    · intro r hr j hj
      have hw := w3 r hr
      rcases (by omega : j = 0 ∨ j = 1 ∨ j = 2) with rfl | rfl | rfl <;> exact wf16 hw rfl
    · intro r hr j hj
      have hw := w4 r hr
      rcases (by omega : j = 0 ∨ j = 1 ∨ j = 2 ∨ j = 3) with rfl | rfl | rfl | rfl <;> exact wf16 hw rfl
    all_goals simp only; omega
end
end Go.Proofs.Ytngpfjmifaecjaa
