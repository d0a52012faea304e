/- girderlaw14.speaks: it does. No condition. (Printed by wip/mkrec9.py.) -/
import Derived.Test.YtngpfjmifaecjaaRec8
import Derived.Test.YtngpfjmifaecjaaRegInvG
namespace Go.Proofs.Ytngpfjmifaecjaa
open Go.RowKit
set_option linter.unusedSimpArgs false
theorem sameR_self {r : Rec} (h : r.ok) : sameR r r = true := by
  unfold sameR listsR
  rw [eqRows_self h.ports, eqRows_self h.vlans, eqRows_self h.stat, eqRows_self h.fdb, eqCells_self h.cfg, eqCells_self h.cnt]
  simp
def pS : List Value := [.int .u16 0, .int .i64 0, .bool false, .int .u32 0, .int .i64 8, .bool false, .bool true, .bool true, .bool false, .bool false, .int .i64 0, .int .i64 0, .int .i64 0, .int .u64 0, .int .u32 0, .int .u64 0, .int .u16 0, .int .i64 0, .int .i64 0, .int .i64 0, .int .i64 0]
theorem pS_fits : fits ksP pS := by
  unfold pS ksP
  repeat (refine ⟨⟨_, rfl⟩, ?_⟩)
  trivial
def rS : Rec := { cfg := [.int .u64 0, .int .i64 0, .int .i64 0, .int .i64 0, .int .i64 0, .int .i64 0], ports := [pS], vlans := [], stat := [], fdb := [], cnt := zerosN, beat := 0 }
theorem rS_ok : rS.ok := ⟨⟨⟨_, rfl⟩, ⟨_, rfl⟩, ⟨_, rfl⟩, ⟨_, rfl⟩, ⟨_, rfl⟩, ⟨_, rfl⟩, trivial⟩, zerosN_fits, fitsAll_cons pS_fits (fitsAll_nil _), fitsAll_nil _, fitsAll_nil _, fitsAll_nil _, by decide, by decide, by decide, by decide⟩
theorem run_buildPS (w : World) : (Instr.build 72 #[(2, .int .i64 8), (5, .bool true), (4, .bool true)]).run Try.prog w = .ok (.agg pS.toArray) w := by kernel_rfl
theorem run_bsPS (w : World) : (Instr.buildSlice 57 1 #[(0, .agg pS.toArray)]).run Try.prog w = .ok (.slice (some ⟨w.heap.size, 0, none⟩) 1 1) (w.alloc (.cells pS.toArray 72)) := by kernel_rfl
theorem run_buildRS (g : Nat) (w : World) : (Instr.build 63 #[(1, .slice (some ⟨g, 0, none⟩) 1 1)]).run Try.prog w = .ok (.agg (recC rS (.slice (some ⟨g, 0, none⟩) 1 1) (.slice none 0 0) (.slice none 0 0) (.slice none 0 0)).toArray) w := by kernel_rfl
set_option maxRecDepth 100000 in
theorem run_fieldP (w : World) (cs : Array Value) (P : Value) (h : cs[6]? = some P) : (Instr.field 63 (.agg cs) 1).run Try.prog w = .ok P w := by
  have hagg : (isAgg 57).run Try.prog w = .ok false w := by
    unfold isAgg
    rw [Sem.run_bind, run_underlying Try.underlying57 w]
    rfl
  unfold Instr.field
  rw [Sem.run_bind, run_underlying Try.underlying63 w]
  show (Sem.run Try.prog (do let x ← asAgg (.agg cs); part 57 x 6) w) = _
  simp [asAgg, part, hagg, h]
theorem wpList_runv {P : Program} {ops : Array Oper} {rest : List Oper} {o : Oper} {a : Act} {w w' : World} {Q : Exit → Act → World → Prop} {v : Value} (hgd : o.guard = none) (hr : (execOp a.eval o).run P w = .ok (.value v) w') (h : wpList P ops Q rest (a.put o.dst v) w') : wpList P ops Q (o :: rest) a w :=
  wpList_plain hgd fun _ hK => wp_value hr (hK _ _ h)
def spD : List (Nat × Nat) := [(0, 7), (1, 8), (2, 9), (3, 10), (4, 11), (5, 12), (6, 13), (7, 14), (8, 15), (9, 16), (10, 17), (11, 18), (12, 19), (13, 20), (14, 21), (15, 22), (16, 23), (17, 24), (18, 25), (19, 26), (20, 27), (21, 28), (22, 29), (23, 30), (24, 31), (25, 32), (26, 33), (27, 34), (28, 0)]
def spV (gp : Nat) : Nat → Option Value
  | 0 => some (.agg pS.toArray)
  | 1 => some (.int .u16 32771)
  | 2 => some (.bool true)
  | 3 => some (.bool true)
  | 4 => some (.agg pS.toArray)
  | 5 => some (.bool true)
  | 6 => some (.bool true)
  | 7 => some (.bool true)
  | 8 => some (.agg (recC rS (.slice (some ⟨gp, 0, none⟩) 1 1) (.slice none 0 0) (.slice none 0 0) (.slice none 0 0)).toArray)
  | 11 => some (.int .i64 1)
  | 12 => some (.bool true)
  | 13 => some (.bool true)
  | 14 => some (.bool true)
  | 15 => some (.agg (recC rS (.slice (some ⟨gp, 0, none⟩) 1 1) (.slice none 0 0) (.slice none 0 0) (.slice none 0 0)).toArray)
  | 20 => some (.bool true)
  | 21 => some (.bool true)
  | 22 => some (.bool true)
  | 23 => some (.agg (recC rS (.slice (some ⟨gp, 0, none⟩) 1 1) (.slice none 0 0) (.slice none 0 0) (.slice none 0 0)).toArray)
  | 24 => some (.agg (recC rS (.slice (some ⟨gp, 0, none⟩) 1 1) (.slice none 0 0) (.slice none 0 0) (.slice none 0 0)).toArray)
  | 26 => some (.bool true)
  | 27 => some (.bool true)
  | 28 => some (.bool true)
  | _ => none
def spE (H : Nat) (i : Nat) (w : World) (v : Value) : Prop :=
  match i with
  | 9 => ∃ P V S, v = .agg (recC (coldR rS) P V S (.slice none 0 0)).toArray ∧ RecOwn H w (coldR rS) P V S (.slice none 0 0)
  | 16 => ∃ P V S, v = .agg (recC (coldR rS) P V S (.slice none 0 0)).toArray ∧ RecOwn H w (coldR rS) P V S (.slice none 0 0)
  | 10 => ∃ A c, v = .slice A 1 c
  | 17 => ∃ g c, v = .slice (some ⟨g, 0, none⟩) 1 c ∧ w.rangeAt g 0 (coldP pS)
  | 18 => ∃ g, v = .pointer (some ⟨g, 0, none⟩) ∧ w.rangeAt g 0 (coldP pS)
  | 19 => ∃ g, v = .pointer (some ⟨g, 7, none⟩) ∧ w.rangeAt g 0 (coldP pS)
  | 25 => ∃ P V S F, v = .agg (recC rS P V S F).toArray ∧ RecOwn H w rS P V S F
  | _ => True
theorem spE_kept (H : Nat) : ∀ i w w' v, Kept noB w w' → spE H i w v → spE H i w' v := by
  intro i w w' v hk h
  unfold spE at h ⊢
  split
  · obtain ⟨P, V, S, e, own⟩ := h; exact ⟨P, V, S, e, own.kept hk⟩
  · obtain ⟨P, V, S, e, own⟩ := h; exact ⟨P, V, S, e, own.kept hk⟩
  · exact h
  · obtain ⟨g, c, e, hr⟩ := h; exact ⟨g, c, e, rangeAt_kept hr hk (fun e => e)⟩
  · obtain ⟨g, e, hr⟩ := h; exact ⟨g, e, rangeAt_kept hr hk (fun e => e)⟩
  · obtain ⟨g, e, hr⟩ := h; exact ⟨g, e, rangeAt_kept hr hk (fun e => e)⟩
  · obtain ⟨P, V, S, F, e, own⟩ := h; exact ⟨P, V, S, F, e, own.kept hk⟩
  · trivial
set_option maxRecDepth 100000 in
set_option maxHeartbeats 1000000 in
theorem speaks14_calls (w : World) : Calls Try.prog 28 #[] w fun e w' => e = .returned (.bool true) ∧ Kept noB w w' := by
  have h1c : pS.toArray.all (·.oneCell') = true := all_oneCell_toArray (one_fits pS_fits)
  have s1 : (Try.prog.info? 72).map (·.size) = some pS.length := by kernel_rfl
  have s1' : (Try.prog.info? 72).map (·.size) = some pS.toArray.size := by kernel_rfl
  have hold1 : zeroP.toArray.size = pS.toArray.size := rfl
  have hz1 := Blk.new w 72 zeroP
  have hp1 := hz1.row pS
  have kp1 : Kept noB w ((w.alloc (.cells zeroP.toArray 72)).setRow w.heap.size pS.toArray) := ((Kept.refl _ _).alloc _).setRow (fun h => absurd h (Nat.lt_irrefl _)) _
  have HP1 := Lib.hid hp1
  have KP1 := Lib.hid kp1
  clear hp1 kp1
  go_enter Try.func28, Try.ntmps28
  go_upto_region 2 with (first | (refine wpList_buildR rfl 72 [(2, .const (.int .i64 8)), (5, .const (.bool true)), (4, .const (.bool true))] rfl [(2, .int .i64 8), (5, .bool true), (4, .bool true)] rfl (.agg pS.toArray) run_buildPS ?_) | (refine wpList_store_row rfl 72 (.tmp 1) (.tmp 3) rfl w.heap.size pS.toArray rfl rfl _ zeroP.toArray (by exact hz1) s1' hold1 h1c ?_))
  change Code.wp _ _ _ _ ((w.alloc (.cells zeroP.toArray 72)).setRow w.heap.size pS.toArray)
  generalize (w.alloc (.cells zeroP.toArray 72)).setRow w.heap.size pS.toArray = W1 at *
  obtain ⟨b1, hb1⟩ : ∃ b, w.heap.size = b := ⟨_, rfl⟩
  rw [hb1] at HP1 ⊢
  clear hz1
  have hbl := HP1.out
  obtain ⟨gp, hgp⟩ : ∃ g, W1.heap.size = g := ⟨_, rfl⟩
  have hro : Blk (W1.alloc (.cells pS.toArray 72)) gp 72 pS := by rw [← hgp]; exact Blk.new W1 _ pS
  have hz2 := Blk.new (W1.alloc (.cells pS.toArray 72)) 63 zeroR
  have hsz2 : (W1.alloc (.cells pS.toArray 72)).heap.size = gp + 1 := by rw [← hgp]; simp
  rw [hsz2] at hz2
  have HS2 := Lib.hid hsz2
  clear hsz2
  have hbs : (Instr.buildSlice 57 1 #[(0, .agg pS.toArray)]).run Try.prog W1 = .ok (.slice (some ⟨gp, 0, none⟩) 1 1) (W1.alloc (.cells pS.toArray 72)) := by rw [← hgp]; exact run_bsPS W1
  have hbr := run_buildRS gp
  have rok := rS_ok
  generalize hSC : recC rS (.slice (some ⟨gp, 0, none⟩) 1 1) (.slice none 0 0) (.slice none 0 0) (.slice none 0 0) = SC at *
  have hl : SC.length = 25 := by rw [← hSC]; exact recC_len rok _ _ _ _
  have h2c : SC.toArray.all (·.oneCell') = true := by
    rw [← hSC]
    exact all_oneCell_toArray (recC_one (b := gp) rok ⟨(show (W1.alloc (.cells pS.toArray 72)).ownsRow gp _ 21 _ 1 _ from ⟨rfl, .inr ⟨gp, 1, pS.toArray, rfl, Nat.le_refl _, hro, Nat.le_refl _, by unfold maxLen; omega, rfl, rfl⟩⟩), World.ownsRow_nil _ _ _ _, World.ownsRow_nil _ _ _ _, World.ownsRow_nil _ _ _ _⟩)
  have s2 : (Try.prog.info? 63).map (·.size) = some SC.length := by rw [hl]; exact sizeR
  have s2' : (Try.prog.info? 63).map (·.size) = some SC.toArray.size := by rw [List.size_toArray]; exact s2
  have hold2 : zeroR.toArray.size = SC.toArray.size := by rw [List.size_toArray, List.size_toArray, hl]; rfl
  have hp2 := hz2.row SC
  have k3 : Kept noB W1 (((W1.alloc (.cells pS.toArray 72)).alloc (.cells zeroR.toArray 63)).setRow (gp + 1) SC.toArray) := (((Kept.refl _ _).alloc _).alloc _).setRow (fun h => by omega) _
  have k4 : Kept noB (W1.alloc (.cells pS.toArray 72)) (((W1.alloc (.cells pS.toArray 72)).alloc (.cells zeroR.toArray 63)).setRow (gp + 1) SC.toArray) := ((Kept.refl _ _).alloc _).setRow (fun h => by have := HS2.out; omega) _
  have HP2 := Lib.hid hp2
  have K3 := Lib.hid k3
  have K4 := Lib.hid k4
  have HRO := Lib.hid hro
  have HSC := Lib.hid hSC
  have HL := Lib.hid hl
  clear hp2 k3 k4 hro hSC hl rok
  go_upto_region 3 with (first | (refine wpList_load_row rfl 72 (.tmp 1) rfl b1 rfl _ pS.toArray _ _ (by exact hbl) Try.underlying72 rfl s1' ?_) | (refine wpList_bsR rfl 57 1 [(0, .tmp 4)] rfl [(0, .agg pS.toArray)] rfl _ _ (by exact hbs) ?_) | (refine wpList_buildR rfl 63 [(1, .tmp 5)] rfl [(1, .slice (some ⟨gp, 0, none⟩) 1 1)] rfl (.agg SC.toArray) hbr ?_) | (refine wpList_store_row rfl 63 (.tmp 2) (.tmp 6) rfl (gp + 1) SC.toArray rfl rfl _ zeroR.toArray (by exact hz2) s2' hold2 h2c ?_))
  change Code.wp _ _ _ _ (((W1.alloc (.cells pS.toArray 72)).alloc (.cells zeroR.toArray 63)).setRow (gp + 1) SC.toArray)
  have hB1 := hbl.kept K3.out (fun e => e)
  have hRO := HRO.out.kept K4.out (fun e => e)
  have kw : Kept noB w (((W1.alloc (.cells pS.toArray 72)).alloc (.cells zeroR.toArray 63)).setRow (gp + 1) SC.toArray) := KP1.out.no K3.out
  have hB2 := HP2.out
  clear K3 K4 HRO hbl hbs hbr hz2 HS2 KP1 HP1 h1c hold1 hold2 h2c s1' s2' hgp hb1
  generalize ((W1.alloc (.cells pS.toArray 72)).alloc (.cells zeroR.toArray 63)).setRow (gp + 1) SC.toArray = W2 at *
  have k1 : W2.rangeAt b1 0 pS := hB1.range (fun j v hv => by rwa [Nat.zero_add])
  have k2 : W2.rangeAt (gp + 1) 0 SC := hB2.range (fun j v hv => by rwa [Nat.zero_add])
  obtain ⟨b2, hb2⟩ : ∃ b, gp + 1 = b := ⟨_, rfl⟩
  rw [hb2] at k2 ⊢
  have hat : RecAt W2 rS (.slice (some ⟨gp, 0, none⟩) 1 1) (.slice none 0 0) (.slice none 0 0) (.slice none 0 0) := ⟨⟨_, _, rfl, ⟨fun r hr => by rw [List.mem_singleton.1 hr]; rfl, .inr ⟨gp, 0, rfl, fun i r hr => by
    match i, hr with
    | 0, hr =>
      cases hr
      exact hRO.range (fun j v hv => by rw [show 0 + 0 * 21 + j = j by omega]; exact hv)⟩⟩⟩, ⟨none, 0, rfl, .nil _ _ _⟩, ⟨none, 0, rfl, .nil _ _ _⟩, ⟨none, 0, rfl, .nil _ _ _⟩⟩
  rw [← HSC.out] at k2 s2
  have hex := spE_kept W2.heap.size
  clear hB1 hB2 hRO hb2
  refine wp_region_invG (by kernel_rfl) (by kernel_rfl) (Slots _ spD (valS (spV gp) (spE W2.heap.size)) (fun _ wz => Kept noB W2 wz)) (Slots.start (Kept.refl _ _).drew) ?_ ?_
  · intro f a' wz hI i o ho hfi hall
    have hi : i < 29 := (Array.getElem?_eq_some_iff.1 ho).1
    have hW := hI.world
    rcases (by omega : i = 0 ∨ i = 1 ∨ i = 2 ∨ i = 3 ∨ i = 4 ∨ i = 5 ∨ i = 6 ∨ i = 7 ∨ i = 8 ∨ i = 9 ∨ i = 10 ∨ i = 11 ∨ i = 12 ∨ i = 13 ∨ i = 14 ∨ i = 15 ∨ i = 16 ∨ i = 17 ∨ i = 18 ∨ i = 19 ∨ i = 20 ∨ i = 21 ∨ i = 22 ∨ i = 23 ∨ i = 24 ∨ i = 25 ∨ i = 26 ∨ i = 27 ∨ i = 28) with rfl | rfl | rfl | rfl | rfl | rfl | rfl | rfl | rfl | rfl | rfl | rfl | rfl | rfl | rfl | rfl | rfl | rfl | rfl | rfl | rfl | rfl | rfl | rfl | rfl | rfl | rfl | rfl | rfl
    all_goals
      simp only [List.getElem?_toArray, List.getElem?_cons_zero, List.getElem?_cons_succ, Option.some.injEq] at ho
      subst ho
    · refine .inl ⟨wanted_free rfl, ?_⟩
      have e1 : a'.eval (.tmp 1) = .pointer (some ⟨b1, 0, none⟩) := hI.old (by decide)
      exact wp_load_mid _ _ rfl b1 0 e1 pS _ (rangeAt_kept k1 hW (fun e => e)) Try.underlying72 rfl s1 (VS.step hI (d := 7) (by kernel_rfl) (by decide) rfl (hW.no (Kept.refl _ _)) (Kept.refl _ _) hex)
    · refine .inl ⟨wanted_free rfl, ?_⟩
      have e7 : a'.eval (.tmp 7) = .agg pS.toArray := hI.eval (k := 0) (by decide) (hall ⟨0, .data⟩ (by simp) rfl)
      refine wp_go Try.func32 rfl rfl (args := #[.agg pS.toArray, .int .i64 3]) (by simp only [List.map_toArray, List.map_cons, List.map_nil, e7]; rfl) ((id_calls pS 3 wz pS_fits).mono ?_)
      rintro e w' ⟨rfl, hk⟩
      exact ⟨_, rfl, VS.step hI (d := 8) (by kernel_rfl) (by decide) (by rw [show idOf pS 3 = 32771 from by kernel_rfl]; rfl) (hW.no hk) hk hex⟩
    · refine .inl ⟨wanted_free rfl, ?_⟩
      have e8 : a'.eval (.tmp 8) = .int .u16 32771 := hI.eval (k := 1) (by decide) (hall ⟨1, .data⟩ (by simp) rfl)
      refine wp_value (w' := wz) ?_ (VS.step hI (d := 9) (by kernel_rfl) (by decide) rfl (hW.no (Kept.refl _ _)) (Kept.refl _ _) hex)
      (unfold execOp; simp only [List.map_toArray, List.map_cons, List.map_nil, e8]; (try simp [go_sem, e8]); try omega)
    · refine .inl ⟨wanted_free rfl, ?_⟩
      have e9 : a'.eval (.tmp 9) = .bool true := hI.eval (k := 2) (by decide) (hall ⟨2, .data⟩ (by simp) rfl)
      refine wp_value (w' := wz) ?_ (VS.step hI (d := 10) (by kernel_rfl) (by decide) rfl (hW.no (Kept.refl _ _)) (Kept.refl _ _) hex)
      (unfold execOp; simp only [List.map_toArray, List.map_cons, List.map_nil, e9]; (try simp [go_sem, e9]); try omega)
    · have e10 : a'.eval (.tmp 10) = .bool true := hI.eval (k := 3) (by decide) (hall ⟨3, .guard⟩ (by simp) rfl)
      refine .inl ⟨wanted_yes rfl (d := 10) rfl e10, ?_⟩
      have e1 : a'.eval (.tmp 1) = .pointer (some ⟨b1, 0, none⟩) := hI.old (by decide)
      exact wp_load_mid _ _ rfl b1 0 e1 pS _ (rangeAt_kept k1 hW (fun e => e)) Try.underlying72 rfl s1 (VS.step hI (d := 11) (by kernel_rfl) (by decide) rfl (hW.no (Kept.refl _ _)) (Kept.refl _ _) hex)
    · have e10 : a'.eval (.tmp 10) = .bool true := hI.eval (k := 3) (by decide) (hall ⟨3, .chain⟩ (by simp) rfl)
      refine .inl ⟨wanted_yes rfl (d := 10) rfl e10, ?_⟩
      have e11 : a'.eval (.tmp 11) = .agg pS.toArray := hI.eval (k := 4) (by decide) (hall ⟨4, .data⟩ (by simp) rfl)
      refine wp_go Try.func31 rfl rfl (args := #[.agg pS.toArray]) (by simp only [List.map_toArray, List.map_cons, List.map_nil, e11]) ((on_calls pS wz pS_fits).mono ?_)
      rintro e w' ⟨rfl, hk⟩
      exact ⟨_, rfl, VS.step hI (d := 12) (by kernel_rfl) (by decide) rfl (hW.no hk) hk hex⟩
    · refine .inl ⟨wanted_free rfl, ?_⟩
      have e10 : a'.eval (.tmp 10) = .bool true := hI.eval (k := 3) (by decide) (hall ⟨3, .data⟩ (by simp) rfl)
      have e12 : a'.eval (.tmp 12) = .bool true := hI.eval (k := 5) (by decide) (hall ⟨5, .data⟩ (by simp) rfl)
      refine wp_value (w' := wz) ?_ (VS.step hI (d := 13) (by kernel_rfl) (by decide) rfl (hW.no (Kept.refl _ _)) (Kept.refl _ _) hex)
      (unfold execOp; simp only [List.map_toArray, List.map_cons, List.map_nil, e10, e12]; (try simp [go_sem, e10, e12]); try omega)
    · refine .inl ⟨wanted_free rfl, ?_⟩
      have e13 : a'.eval (.tmp 13) = .bool true := hI.eval (k := 6) (by decide) (hall ⟨6, .data⟩ (by simp) rfl)
      refine wp_value (w' := wz) ?_ (VS.step hI (d := 14) (by kernel_rfl) (by decide) rfl (hW.no (Kept.refl _ _)) (Kept.refl _ _) hex)
      (unfold execOp; simp only [List.map_toArray, List.map_cons, List.map_nil, e13]; (try simp [go_sem, e13]); try omega)
    · have e14 : a'.eval (.tmp 14) = .bool true := hI.eval (k := 7) (by decide) (hall ⟨7, .guard⟩ (by simp) rfl)
      refine .inl ⟨wanted_yes rfl (d := 14) rfl e14, ?_⟩
      have e2 : a'.eval (.tmp 2) = .pointer (some ⟨b2, 0, none⟩) := hI.old (by decide)
      exact wp_load_mid _ _ rfl b2 0 e2 _ _ (rangeAt_kept k2 hW (fun e => e)) Try.underlying63 rfl s2 (VS.step hI (d := 15) (by kernel_rfl) (by decide) rfl (hW.no (Kept.refl _ _)) (Kept.refl _ _) hex)
    · have e14 : a'.eval (.tmp 14) = .bool true := hI.eval (k := 7) (by decide) (hall ⟨7, .chain⟩ (by simp) rfl)
      refine .inl ⟨wanted_yes rfl (d := 14) rfl e14, ?_⟩
      have e15 : a'.eval (.tmp 15) = .agg (recC rS (.slice (some ⟨gp, 0, none⟩) 1 1) (.slice none 0 0) (.slice none 0 0) (.slice none 0 0)).toArray := hI.eval (k := 8) (by decide) (hall ⟨8, .data⟩ (by simp) rfl)
      refine wp_go Try.func30 rfl rfl (args := #[.agg (recC rS (.slice (some ⟨gp, 0, none⟩) 1 1) (.slice none 0 0) (.slice none 0 0) (.slice none 0 0)).toArray]) (by simp only [List.map_toArray, List.map_cons, List.map_nil, e15]) ((cold_calls rS _ _ _ _ wz rS_ok (hat.kept hW)).mono ?_)
      rintro e w' ⟨P, V, S, rfl, own, hk⟩
      exact ⟨_, rfl, VS.put hI (d := 16) (by kernel_rfl) (by decide) (fun _ => ⟨P, V, S, rfl, own.base hW.size⟩) (hW.no hk) hk hex⟩
    · have e14 : a'.eval (.tmp 14) = .bool true := hI.eval (k := 7) (by decide) (hall ⟨7, .guard⟩ (by simp) rfl)
      refine .inl ⟨wanted_yes rfl (d := 14) rfl e14, ?_⟩
      have e16 := hI.eval (k := 9) (d := 16) (by decide) (hall ⟨9, .data⟩ (by simp) rfl)
      obtain ⟨P, V, S, e16, own⟩ := e16
      change a'.eval (.tmp 16) = _ at e16
      have hc6 := recC_6 (coldR_ok rS_ok) P V S (.slice none 0 0)
      rw [← List.getElem?_toArray] at hc6
      obtain ⟨A, c, rfl, _⟩ := (own.at (coldR_ok rS_ok)).ports
      generalize hcs : (recC (coldR rS) _ V S (.slice none 0 0)).toArray = cs at *
      refine wp_value (w' := wz) ?_ (VS.put hI (d := 17) (v := .slice A (coldR rS).ports.length c) (by kernel_rfl) (by decide) (fun _ => ⟨A, c, rfl⟩) (hW.no (Kept.refl _ _)) (Kept.refl _ _) hex)
      have hrf := run_fieldP wz cs _ hc6
      (unfold execOp; simp only [List.map_toArray, List.map_cons, List.map_nil, e16, hrf]; (try simp [go_sem, e16, hrf]); try omega)
    · have e14 : a'.eval (.tmp 14) = .bool true := hI.eval (k := 7) (by decide) (hall ⟨7, .guard⟩ (by simp) rfl)
      refine .inl ⟨wanted_yes rfl (d := 14) rfl e14, ?_⟩
      have e17 := hI.eval (k := 10) (d := 17) (by decide) (hall ⟨10, .data⟩ (by simp) rfl)
      obtain ⟨A, c, e17⟩ := e17
      change a'.eval (.tmp 17) = _ at e17
      have r17 := e17
      simp only [Act.eval, Array.getD_eq_getD_getElem?] at r17
      refine wp_value (w' := wz) ?_ (VS.step hI (d := 18) (by kernel_rfl) (by decide) rfl (hW.no (Kept.refl _ _)) (Kept.refl _ _) hex)
      (unfold execOp; simp only [List.map_toArray, List.map_cons, List.map_nil, e17, r17, show (coldR rS).ports.length = 1 from rfl]; (try simp [go_sem, e17, r17, show (coldR rS).ports.length = 1 from rfl]); try omega)
    · have e14 : a'.eval (.tmp 14) = .bool true := hI.eval (k := 7) (by decide) (hall ⟨7, .guard⟩ (by simp) rfl)
      refine .inl ⟨wanted_yes rfl (d := 14) rfl e14, ?_⟩
      have e18 : a'.eval (.tmp 18) = .int .i64 1 := hI.eval (k := 11) (by decide) (hall ⟨11, .data⟩ (by simp) rfl)
      refine wp_value (w' := wz) ?_ (VS.step hI (d := 19) (by kernel_rfl) (by decide) rfl (hW.no (Kept.refl _ _)) (Kept.refl _ _) hex)
      (unfold execOp; simp only [List.map_toArray, List.map_cons, List.map_nil, e18]; (try simp [go_sem, e18]); try omega)
    · refine .inl ⟨wanted_free rfl, ?_⟩
      have e14 : a'.eval (.tmp 14) = .bool true := hI.eval (k := 7) (by decide) (hall ⟨7, .data⟩ (by simp) rfl)
      have e19 : a'.eval (.tmp 19) = .bool true := hI.eval (k := 12) (by decide) (hall ⟨12, .data⟩ (by simp) rfl)
      refine wp_value (w' := wz) ?_ (VS.step hI (d := 20) (by kernel_rfl) (by decide) rfl (hW.no (Kept.refl _ _)) (Kept.refl _ _) hex)
      (unfold execOp; simp only [List.map_toArray, List.map_cons, List.map_nil, e14, e19]; (try simp [go_sem, e14, e19]); try omega)
    · refine .inl ⟨wanted_free rfl, ?_⟩
      have e20 : a'.eval (.tmp 20) = .bool true := hI.eval (k := 13) (by decide) (hall ⟨13, .data⟩ (by simp) rfl)
      refine wp_value (w' := wz) ?_ (VS.step hI (d := 21) (by kernel_rfl) (by decide) rfl (hW.no (Kept.refl _ _)) (Kept.refl _ _) hex)
      (unfold execOp; simp only [List.map_toArray, List.map_cons, List.map_nil, e20]; (try simp [go_sem, e20]); try omega)
    · have e21 : a'.eval (.tmp 21) = .bool true := hI.eval (k := 14) (by decide) (hall ⟨14, .guard⟩ (by simp) rfl)
      refine .inl ⟨wanted_yes rfl (d := 21) rfl e21, ?_⟩
      have e2 : a'.eval (.tmp 2) = .pointer (some ⟨b2, 0, none⟩) := hI.old (by decide)
      exact wp_load_mid _ _ rfl b2 0 e2 _ _ (rangeAt_kept k2 hW (fun e => e)) Try.underlying63 rfl s2 (VS.step hI (d := 22) (by kernel_rfl) (by decide) rfl (hW.no (Kept.refl _ _)) (Kept.refl _ _) hex)
    · have e21 : a'.eval (.tmp 21) = .bool true := hI.eval (k := 14) (by decide) (hall ⟨14, .chain⟩ (by simp) rfl)
      refine .inl ⟨wanted_yes rfl (d := 21) rfl e21, ?_⟩
      have e22 : a'.eval (.tmp 22) = .agg (recC rS (.slice (some ⟨gp, 0, none⟩) 1 1) (.slice none 0 0) (.slice none 0 0) (.slice none 0 0)).toArray := hI.eval (k := 15) (by decide) (hall ⟨15, .data⟩ (by simp) rfl)
      refine wp_go Try.func30 rfl rfl (args := #[.agg (recC rS (.slice (some ⟨gp, 0, none⟩) 1 1) (.slice none 0 0) (.slice none 0 0) (.slice none 0 0)).toArray]) (by simp only [List.map_toArray, List.map_cons, List.map_nil, e22]) ((cold_calls rS _ _ _ _ wz rS_ok (hat.kept hW)).mono ?_)
      rintro e w' ⟨P, V, S, rfl, own, hk⟩
      exact ⟨_, rfl, VS.put hI (d := 23) (by kernel_rfl) (by decide) (fun _ => ⟨P, V, S, rfl, own.base hW.size⟩) (hW.no hk) hk hex⟩
    · have e21 : a'.eval (.tmp 21) = .bool true := hI.eval (k := 14) (by decide) (hall ⟨14, .guard⟩ (by simp) rfl)
      refine .inl ⟨wanted_yes rfl (d := 21) rfl e21, ?_⟩
      have e23 := hI.eval (k := 16) (d := 23) (by decide) (hall ⟨16, .data⟩ (by simp) rfl)
      obtain ⟨P, V, S, e23, own⟩ := e23
      change a'.eval (.tmp 23) = _ at e23
      have hc6 := recC_6 (coldR_ok rS_ok) P V S (.slice none 0 0)
      rw [← List.getElem?_toArray] at hc6
      obtain ⟨A, c, rfl, hro⟩ := (own.at (coldR_ok rS_ok)).ports
      obtain ⟨g, off, rfl, hrg⟩ := hro.get (i := 0) (r := coldP pS) rfl
      have ho := (owns_rowsA own.ports (fitsAll_len (coldR_ok rS_ok).ports)).2 _ rfl
      have ho1 : off = 0 := ho.1
      subst ho1
      generalize hcs : (recC (coldR rS) _ V S (.slice none 0 0)).toArray = cs at *
      refine wp_value (w' := wz) ?_ (VS.put hI (d := 24) (v := .slice (some ⟨g, 0, none⟩) (coldR rS).ports.length c) (by kernel_rfl) (by decide) (fun _ => ⟨g, c, rfl, hrg⟩) (hW.no (Kept.refl _ _)) (Kept.refl _ _) hex)
      have hrf := run_fieldP wz cs _ hc6
      (unfold execOp; simp only [List.map_toArray, List.map_cons, List.map_nil, e23, hrf]; (try simp [go_sem, e23, hrf]); try omega)
    · have e21 : a'.eval (.tmp 21) = .bool true := hI.eval (k := 14) (by decide) (hall ⟨14, .guard⟩ (by simp) rfl)
      refine .inl ⟨wanted_yes rfl (d := 21) rfl e21, ?_⟩
      have e24 := hI.eval (k := 17) (d := 24) (by decide) (hall ⟨17, .data⟩ (by simp) rfl)
      obtain ⟨g, c, e24, hr⟩ := e24
      change a'.eval (.tmp 24) = _ at e24
      refine wp_value (w' := wz) ?_ (VS.put hI (d := 25) (v := .pointer (some ⟨g, 0, none⟩)) (by kernel_rfl) (by decide) (fun _ => ⟨g, rfl, hr⟩) (hW.no (Kept.refl _ _)) (Kept.refl _ _) hex)
      (unfold execOp; simp only [List.map_toArray, List.map_cons, List.map_nil, e24]; (try simp [go_sem, e24]); try omega)
    · have e21 : a'.eval (.tmp 21) = .bool true := hI.eval (k := 14) (by decide) (hall ⟨14, .guard⟩ (by simp) rfl)
      refine .inl ⟨wanted_yes rfl (d := 21) rfl e21, ?_⟩
      have e25 := hI.eval (k := 18) (d := 25) (by decide) (hall ⟨18, .data⟩ (by simp) rfl)
      obtain ⟨g, e25, hr⟩ := e25
      change a'.eval (.tmp 25) = _ at e25
      refine wp_value (w' := wz) ?_ (VS.put hI (d := 26) (v := .pointer (some ⟨g, 7, none⟩)) (by kernel_rfl) (by decide) (fun _ => ⟨g, rfl, hr⟩) (hW.no (Kept.refl _ _)) (Kept.refl _ _) hex)
      (unfold execOp; simp only [List.map_toArray, List.map_cons, List.map_nil, e25]; (try simp [go_sem, e25]); try omega)
    · have e21 : a'.eval (.tmp 21) = .bool true := hI.eval (k := 14) (by decide) (hall ⟨14, .guard⟩ (by simp) rfl)
      refine .inl ⟨wanted_yes rfl (d := 21) rfl e21, ?_⟩
      have e26 := hI.eval (k := 19) (d := 26) (by decide) (hall ⟨19, .data⟩ (by simp) rfl)
      obtain ⟨g, e26, hr⟩ := e26
      change a'.eval (.tmp 26) = _ at e26
      have hc : wz.cell? ⟨g, 7, none⟩ = some (.bool true) := by have := hr 7 (.bool true) rfl; rwa [Nat.zero_add] at this
      refine wp_value (w' := wz) ?_ (VS.step hI (d := 27) (by kernel_rfl) (by decide) rfl (hW.no (Kept.refl _ _)) (Kept.refl _ _) hex)
      (unfold execOp; simp only [List.map_toArray, List.map_cons, List.map_nil, e26, hc]; (try simp [go_sem, e26, hc]); try omega)
    · refine .inl ⟨wanted_free rfl, ?_⟩
      have e21 : a'.eval (.tmp 21) = .bool true := hI.eval (k := 14) (by decide) (hall ⟨14, .data⟩ (by simp) rfl)
      have e27 : a'.eval (.tmp 27) = .bool true := hI.eval (k := 20) (by decide) (hall ⟨20, .data⟩ (by simp) rfl)
      refine wp_value (w' := wz) ?_ (VS.step hI (d := 28) (by kernel_rfl) (by decide) rfl (hW.no (Kept.refl _ _)) (Kept.refl _ _) hex)
      (unfold execOp; simp only [List.map_toArray, List.map_cons, List.map_nil, e21, e27]; (try simp [go_sem, e21, e27]); try omega)
    · refine .inl ⟨wanted_free rfl, ?_⟩
      have e28 : a'.eval (.tmp 28) = .bool true := hI.eval (k := 21) (by decide) (hall ⟨21, .data⟩ (by simp) rfl)
      refine wp_value (w' := wz) ?_ (VS.step hI (d := 29) (by kernel_rfl) (by decide) rfl (hW.no (Kept.refl _ _)) (Kept.refl _ _) hex)
      (unfold execOp; simp only [List.map_toArray, List.map_cons, List.map_nil, e28]; (try simp [go_sem, e28]); try omega)
    · have e29 : a'.eval (.tmp 29) = .bool true := hI.eval (k := 22) (by decide) (hall ⟨22, .guard⟩ (by simp) rfl)
      refine .inl ⟨wanted_yes rfl (d := 29) rfl e29, ?_⟩
      have e2 : a'.eval (.tmp 2) = .pointer (some ⟨b2, 0, none⟩) := hI.old (by decide)
      exact wp_load_mid _ _ rfl b2 0 e2 _ _ (rangeAt_kept k2 hW (fun e => e)) Try.underlying63 rfl s2 (VS.step hI (d := 30) (by kernel_rfl) (by decide) rfl (hW.no (Kept.refl _ _)) (Kept.refl _ _) hex)
    · have e29 : a'.eval (.tmp 29) = .bool true := hI.eval (k := 22) (by decide) (hall ⟨22, .guard⟩ (by simp) rfl)
      refine .inl ⟨wanted_yes rfl (d := 29) rfl e29, ?_⟩
      have e2 : a'.eval (.tmp 2) = .pointer (some ⟨b2, 0, none⟩) := hI.old (by decide)
      exact wp_load_mid _ _ rfl b2 0 e2 _ _ (rangeAt_kept k2 hW (fun e => e)) Try.underlying63 rfl s2 (VS.step hI (d := 31) (by kernel_rfl) (by decide) rfl (hW.no (Kept.refl _ _)) (Kept.refl _ _) hex)
    · have e29 : a'.eval (.tmp 29) = .bool true := hI.eval (k := 22) (by decide) (hall ⟨22, .chain⟩ (by simp) rfl)
      refine .inl ⟨wanted_yes rfl (d := 29) rfl e29, ?_⟩
      have e31 : a'.eval (.tmp 31) = .agg (recC rS (.slice (some ⟨gp, 0, none⟩) 1 1) (.slice none 0 0) (.slice none 0 0) (.slice none 0 0)).toArray := hI.eval (k := 24) (by decide) (hall ⟨24, .data⟩ (by simp) rfl)
      refine wp_go Try.func34 rfl rfl (args := #[.agg (recC rS (.slice (some ⟨gp, 0, none⟩) 1 1) (.slice none 0 0) (.slice none 0 0) (.slice none 0 0)).toArray]) (by simp only [List.map_toArray, List.map_cons, List.map_nil, e31]) ((clone_calls rS _ _ _ _ wz rS_ok (hat.kept hW)).mono ?_)
      rintro e w' ⟨P, V, S, F, rfl, own, hk⟩
      exact ⟨_, rfl, VS.put hI (d := 32) (by kernel_rfl) (by decide) (fun _ => ⟨P, V, S, F, rfl, own.base hW.size⟩) (hW.no hk) hk hex⟩
    · have e29 : a'.eval (.tmp 29) = .bool true := hI.eval (k := 22) (by decide) (hall ⟨22, .guard⟩ (by simp) rfl)
      refine .inl ⟨wanted_yes rfl (d := 29) rfl e29, ?_⟩
      have e30 : a'.eval (.tmp 30) = .agg (recC rS (.slice (some ⟨gp, 0, none⟩) 1 1) (.slice none 0 0) (.slice none 0 0) (.slice none 0 0)).toArray := hI.eval (k := 23) (by decide) (hall ⟨23, .data⟩ (by simp) rfl)
      have e32 := hI.eval (k := 25) (d := 32) (by decide) (hall ⟨25, .data⟩ (by simp) rfl)
      obtain ⟨P, V, S, F, e32, own⟩ := e32
      change a'.eval (.tmp 32) = _ at e32
      refine wp_go Try.func33 rfl rfl (args := #[.agg (recC rS (.slice (some ⟨gp, 0, none⟩) 1 1) (.slice none 0 0) (.slice none 0 0) (.slice none 0 0)).toArray, .agg (recC rS P V S F).toArray]) (by simp only [List.map_toArray, List.map_cons, List.map_nil, e30, e32]) ((same_calls rS rS _ _ _ _ P V S F wz rS_ok rS_ok (hat.kept hW) (own.at rS_ok)).mono ?_)
      rintro e w' ⟨rfl, hk⟩
      exact ⟨_, rfl, VS.step hI (d := 33) (by kernel_rfl) (by decide) (by rw [sameR_self rS_ok]; rfl) (hW.no hk) hk hex⟩
    · refine .inl ⟨wanted_free rfl, ?_⟩
      have e29 : a'.eval (.tmp 29) = .bool true := hI.eval (k := 22) (by decide) (hall ⟨22, .data⟩ (by simp) rfl)
      have e33 : a'.eval (.tmp 33) = .bool true := hI.eval (k := 26) (by decide) (hall ⟨26, .data⟩ (by simp) rfl)
      refine wp_value (w' := wz) ?_ (VS.step hI (d := 34) (by kernel_rfl) (by decide) rfl (hW.no (Kept.refl _ _)) (Kept.refl _ _) hex)
      (unfold execOp; simp only [List.map_toArray, List.map_cons, List.map_nil, e29, e33]; (try simp [go_sem, e29, e33]); try omega)
    · refine .inl ⟨wanted_free rfl, ?_⟩
      have e34 : a'.eval (.tmp 34) = .bool true := hI.eval (k := 27) (by decide) (hall ⟨27, .data⟩ (by simp) rfl)
      refine wp_value (w' := wz) ?_ (VS.step hI (d := 0) (by kernel_rfl) (by decide) rfl (hW.no (Kept.refl _ _)) (Kept.refl _ _) hex)
      (unfold execOp; simp only [List.map_toArray, List.map_cons, List.map_nil, e34]; (try simp [go_sem, e34]); try omega)
  · intro f a' wz hf hI
    have e0 : a'.tmps.getD 0 undef = .bool true := hI.slot (28, 0) (by decide) (hf 28 (by decide))
    have kz := kw.no hI.world
    have ho := hI.out
    clear hI hf
    simp only [spD, List.foldl_cons, List.foldl_nil, Act.put] at ho
    rw [e0] at ho
    generalize a'.tmps.getD 7 undef = y7 at *
    generalize a'.tmps.getD 8 undef = y8 at *
    generalize a'.tmps.getD 9 undef = y9 at *
    generalize a'.tmps.getD 10 undef = y10 at *
    generalize a'.tmps.getD 11 undef = y11 at *
    generalize a'.tmps.getD 12 undef = y12 at *
    generalize a'.tmps.getD 13 undef = y13 at *
    generalize a'.tmps.getD 14 undef = y14 at *
    generalize a'.tmps.getD 15 undef = y15 at *
    generalize a'.tmps.getD 16 undef = y16 at *
    generalize a'.tmps.getD 17 undef = y17 at *
    generalize a'.tmps.getD 18 undef = y18 at *
    generalize a'.tmps.getD 19 undef = y19 at *
    generalize a'.tmps.getD 20 undef = y20 at *
    generalize a'.tmps.getD 21 undef = y21 at *
    generalize a'.tmps.getD 22 undef = y22 at *
    generalize a'.tmps.getD 23 undef = y23 at *
    generalize a'.tmps.getD 24 undef = y24 at *
    generalize a'.tmps.getD 25 undef = y25 at *
    generalize a'.tmps.getD 26 undef = y26 at *
    generalize a'.tmps.getD 27 undef = y27 at *
    generalize a'.tmps.getD 28 undef = y28 at *
    generalize a'.tmps.getD 29 undef = y29 at *
    generalize a'.tmps.getD 30 undef = y30 at *
    generalize a'.tmps.getD 31 undef = y31 at *
    generalize a'.tmps.getD 32 undef = y32 at *
    generalize a'.tmps.getD 33 undef = y33 at *
    generalize a'.tmps.getD 34 undef = y34 at *
    simp only [List.setIfInBounds_toArray, List.set_cons_zero, List.set_cons_succ] at ho
    subst ho
    clear e0 hat k1 k2 s1 s2 hex
    have KZ := Lib.hid kz
    clear kz kw
    go_wp2_with fail
    go_ret
    exact ⟨rfl, KZ.out⟩
end Go.Proofs.Ytngpfjmifaecjaa
