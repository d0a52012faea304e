/- RecordCold, walked. Conditions: the argument's numbers are of their kinds. -/
import Derived.Test.YtngpfjmifaecjaaRec9
import Derived.Test.YtngpfjmifaecjaaTwoReg
namespace Go.Proofs.Ytngpfjmifaecjaa
open Go.RowKit
set_option linter.unusedSimpArgs false
/-- guarded forms -/
theorem wpList_build0G {P : Program} {ops : Array Oper} {rest : List Oper} {o : Oper} {a : Act} {w : World} {Q : Exit → Act → World → Prop} (hw : Region.wanted o (yielded ops a.tmps) = true) (T : TypeId) (ho : o.op = .build T #[]) (v : Value)
    (hb : ∀ w, (Instr.build T #[]).run P w = .ok v w) (h : wpList P ops Q rest (a.put o.dst v) w) : wpList P ops Q (o :: rest) a w :=
  BigFrame.wpList_want hw fun _ hK => by
    have hr : (execOp a.eval o).run P w = .ok (.value v) w := by
      unfold execOp
      rw [ho]
      simp only [List.map_toArray, List.map_nil]
      exact run_val (hb w)
    exact wp_value hr (hK _ _ h)
theorem sizeI : (Try.prog.info? 53).map (·.size) = some 25 := by kernel_rfl
/-- a state that lies in a block of the law's own -/
structure StAt (W : World) (X : Nat) (r : Rec) (P V S F : Value) : Prop where
  ok : r.ok
  blk : Blk W X 63 (recC r P V S F)
  at' : RecAt W r P V S F
theorem StAt.kept {W W' : World} {X : Nat} {r : Rec} {P V S F : Value} (h : StAt W X r P V S F) (hk : Kept noB W W') : StAt W' X r P V S F := ⟨h.ok, h.blk.kept hk (fun e => e), h.at'.kept hk⟩
theorem made_ok {x : Inp} (h : x.ok) : (made x).ok := madeN_ok h 16 16 16 64 (by decide) (by decide) (by decide) (by decide)
theorem st_size {r : Rec} (h : r.ok) (P V S F : Value) : (Try.prog.info? 63).map (·.size) = some (recC r P V S F).toArray.size := by rw [List.size_toArray, recC_len h]; exact sizeR
theorem st_hold {r : Rec} (h : r.ok) (P V S F : Value) : zeroR.toArray.size = (recC r P V S F).toArray.size := by rw [List.size_toArray, List.size_toArray, recC_len h]; rfl
theorem st_laid {b : Nat} {w1 : World} {r : Rec} {P V S F : Value} (hok : r.ok) (own : RecOwn b w1 r P V S F) :
    StAt ((w1.alloc (.cells zeroR.toArray 63)).setRow w1.heap.size (recC r P V S F).toArray) w1.heap.size r P V S F ∧ Kept noB w1 ((w1.alloc (.cells zeroR.toArray 63)).setRow w1.heap.size (recC r P V S F).toArray) := by
  have k3 : Kept noB w1 ((w1.alloc (.cells zeroR.toArray 63)).setRow w1.heap.size (recC r P V S F).toArray) := ((Kept.refl _ _).alloc _).setRow (fun h => absurd h (Nat.lt_irrefl _)) _
  exact ⟨⟨hok, (Blk.new w1 _ zeroR).row _, (own.at hok).kept k3⟩, k3⟩
theorem id_eq (a z : Int) : (IntKind.u16.wrap (wrap64 (wrap64 (a * 4096) + z)) != IntKind.u16.wrap (IntKind.u64.wrap (IntKind.u64.wrap (IntKind.u64.wrap a * 4096) + IntKind.u64.wrap z))) = false := by
  unfold wrap64
  simp only [IntKind.wrap_u16, IntKind.wrap_u64]
  rw [bne_eq_false_iff_eq]
  omega
theorem coldP_twice (p : List Value) : coldP (coldP p) = coldP p := rfl
theorem coldR_twice (r : Rec) : coldR (coldR r) = coldR r := by
  unfold coldR
  simp only [List.map_map]
  congr 1
def r24E (H : Nat) (m : Rec) (i : Nat) (w : World) (v : Value) : Prop :=
  match i with
  | 2 => ∃ P V S F, v = .agg (recC m P V S F).toArray ∧ RecOwn H w m P V S F
  | 6 => ∃ P V S, v = .agg (recC (coldR m) P V S (.slice none 0 0)).toArray ∧ RecOwn H w (coldR m) P V S (.slice none 0 0)
  | _ => True
theorem r24E_kept (H : Nat) (m : Rec) : ∀ i w w' v, Kept noB w w' → r24E H m i w v → r24E H m i w' v := by
  intro i w w' v hk h
  unfold r24E at h ⊢
  split
  · obtain ⟨P, V, S, F, e, own⟩ := h; exact ⟨P, V, S, F, e, own.kept hk⟩
  · obtain ⟨P, V, S, e, own⟩ := h; exact ⟨P, V, S, e, own.kept hk⟩
  · trivial
def r24D : List (Nat × Nat) := [(0, 164), (1, 165), (2, 166), (3, 167), (4, 168), (5, 169), (6, 170), (7, 171), (8, 172), (9, 173), (10, 4)]
def r24V (xc s1 s2 : List Value) : Nat → Option Value
  | 0 => some (.agg s1.toArray)
  | 1 => some (.agg xc.toArray)
  | 3 => some (.bool true)
  | 4 => some (.bool true)
  | 5 => some (.agg s2.toArray)
  | 7 => some (.agg s2.toArray)
  | 8 => some (.bool true)
  | 9 => some (.bool true)
  | 10 => some (.bool true)
  | _ => none
def rcD : List (Nat × Nat) := [(0, 75), (1, 76), (2, 77), (3, 78), (4, 79), (5, 80), (6, 81), (7, 82), (8, 83), (9, 84), (10, 8), (11, 9)]
def rcV (p : List Value) (X1 X2 g off g5 o5 c1 c5 n k : Nat) : Nat → Option Value
  | 0 => some (.pointer (some ⟨X2, 6, none⟩))
  | 1 => some (.slice (some ⟨g5, o5, none⟩) n c5)
  | 2 => some (.int .i64 (k : Int))
  | 3 => some (.pointer (some ⟨g5, o5 + k * 21, none⟩))
  | 4 => some (.agg (coldP p).toArray)
  | 5 => some (.pointer (some ⟨X1, 6, none⟩))
  | 6 => some (.slice (some ⟨g, off, none⟩) n c1)
  | 7 => some (.int .i64 (k : Int))
  | 8 => some (.pointer (some ⟨g, off + k * 21, none⟩))
  | 9 => some (.agg p.toArray)
  | _ => none
def TwNone (_ : Nat) (_ : World) (_ : Value) : Prop := True
theorem rcOk (p : List Value) (X1 X2 g off g5 o5 c1 c5 n k : Nat) (T : TypeId) (r1 r2 : List Value) : TWok (rcV p X1 X2 g off g5 o5 c1 c5 n k) T (fun _ cs => cs = r1) (fun _ cs => cs = r2) 10 11 12 13 8 9 TwNone rcD :=
  ⟨Stays.eq T r1, Stays.eq T r2, fun _ _ _ _ _ h => h, fun _ _ _ _ _ _ _ _ h => h, rfl, rfl, by decide, by decide, by decide, by decide, by decide, by decide, by decide⟩
theorem run_allocP (w : World) : (Instr.alloc 72 true (.tuple #[])).run Try.prog w = .ok (.pointer (some ⟨w.heap.size, 0, none⟩)) (w.alloc (.cells zeroP.toArray 72)) := by kernel_rfl
set_option maxRecDepth 100000 in
set_option maxHeartbeats 20000000 in
theorem recordCold_walk (x : Inp) (num : Int) (P0 V0 S0 F0 : Value) (w : World) (hok : x.ok) (h : InpAt w x P0 V0 S0 F0) :
    Calls Try.prog 7 #[.agg (inpC x P0 V0 S0 F0).toArray, .int .i64 num] w fun e w' => e = .returned (.bool true) ∧ Kept noB w w' := by
  have hb1 := Blk.new w 53 (inpC x P0 V0 S0 F0)
  have hkw : Kept noB w (w.alloc (.cells (inpC x P0 V0 S0 F0).toArray 53)) := (Kept.refl _ _).alloc _
  have hlen := inpC_len hok P0 V0 S0 F0
  have q2 := fun W (hk : Kept noB w W) => made_calls x P0 V0 S0 F0 W hok (InpAt.kept h hk)
  have HOK := Lib.hid hok
  clear h hok
  generalize inpC x P0 V0 S0 F0 = xc at *
  have hsx : (Try.prog.info? 53).map (·.size) = some xc.toArray.size := by rw [List.size_toArray, hlen]; exact sizeI
  clear hlen
  go_enter Try.func7, Try.ntmps7
  go_upto_region 1 with (fail)
  change Code.wp _ _ _ _ (w.alloc (.cells xc.toArray 53))
  generalize w.alloc (.cells xc.toArray 53) = W0 at *
  obtain ⟨B, hB⟩ : ∃ B, w.heap.size = B := ⟨_, rfl⟩
  rw [hB] at hb1 ⊢
  have HB := Lib.hid hB
  clear hB
  go_wp2_with fail
  refine (speaks14_calls _).mono ?_
  rintro e w1 ⟨rfl, hk1⟩
  have hb2 := hb1.kept hk1 (fun e => e)
  have q3 := q2 w1 (hkw.no hk1)
  have hkw := hkw.no hk1
  clear hb1 hk1
  go_wp2_with (refine wpList_load_row rfl 53 (.tmp 2) rfl B rfl _ xc.toArray _ _ (by exact hb2) Try.underlying53 rfl hsx ?_)
  refine q3.mono ?_
  rintro e w2 ⟨P, V, S, F, rfl, own2, hk2⟩
  have hb3 := hb2.kept hk2 (fun e => e)
  have hkw2 := hkw.no hk2
  have mok := made_ok HOK.out
  have h1c : (recC (made x) P V S F).toArray.all (·.oneCell') = true := all_oneCell_toArray (recC_one mok own2)
  have hs := st_size mok P V S F
  have hold := st_hold mok P V S F
  have hz := Blk.new w2 63 zeroR
  obtain ⟨st1, k3⟩ := st_laid mok own2
  have ST1 := Lib.hid st1
  have K3 := Lib.hid k3
  have MOK := Lib.hid mok
  have HB3 := Lib.hid hb3
  have HKW := Lib.hid hkw2
  clear q3 hb2 hkw st1 k3 mok hb3 hkw2 own2 hk2
  go_upto_region 4 with (refine wpList_store_row rfl 63 (.tmp 5) (.tmp 16) rfl w2.heap.size (recC (made x) P V S F).toArray rfl rfl _ zeroR.toArray (by exact hz) hs hold h1c ?_)
  change Code.wp _ _ _ _ ((w2.alloc (.cells zeroR.toArray 63)).setRow w2.heap.size (recC (made x) P V S F).toArray)
  clear hz h1c hold
  generalize (w2.alloc (.cells zeroR.toArray 63)).setRow w2.heap.size (recC (made x) P V S F).toArray = W3 at *
  generalize w2.heap.size = X1 at *
  have q4 := cold_calls (made x) P V S F W3 MOK.out ST1.out.at'
  have hx1 := ST1.out.blk
  go_wp2_with (refine wpList_load_row rfl 63 (.tmp 5) rfl X1 rfl _ (recC (made x) P V S F).toArray _ _ (by exact hx1) Try.underlying63 rfl hs ?_)
  refine q4.mono ?_
  rintro e w4 ⟨P2, V2, S2, rfl, own4, hk4⟩
  have cok := coldR_ok MOK.out
  have h1c : (recC (coldR (made x)) P2 V2 S2 (.slice none 0 0)).toArray.all (·.oneCell') = true := all_oneCell_toArray (recC_one cok own4)
  have hs2 := st_size cok P2 V2 S2 (.slice none 0 0)
  have hold := st_hold cok P2 V2 S2 (.slice none 0 0)
  have hz := Blk.new w4 63 zeroR
  obtain ⟨st2, k5⟩ := st_laid cok own4
  have st1 := (ST1.out.kept hk4).kept k5
  have ST2 := Lib.hid st2
  have ST1' := Lib.hid st1
  have HB5 := Lib.hid ((((HB3.out.kept K3.out (fun e => e)).kept hk4 (fun e => e)).kept k5 (fun e => e)))
  have HKW5 := Lib.hid (((HKW.out.no K3.out).no hk4).no k5)
  clear q4 hx1 st2 k5 st1 own4 hk4 ST1 K3 HB3 HKW hs
  go_upto_region 5 with (refine wpList_store_row rfl 63 (.tmp 6) (.tmp 18) rfl w4.heap.size (recC (coldR (made x)) P2 V2 S2 (.slice none 0 0)).toArray rfl rfl _ zeroR.toArray (by exact hz) hs2 hold h1c ?_)
  change Code.wp _ _ _ _ ((w4.alloc (.cells zeroR.toArray 63)).setRow w4.heap.size (recC (coldR (made x)) P2 V2 S2 (.slice none 0 0)).toArray)
  clear hz h1c hold hs2
  generalize (w4.alloc (.cells zeroR.toArray 63)).setRow w4.heap.size (recC (coldR (made x)) P2 V2 S2 (.slice none 0 0)).toArray = W at *
  generalize w4.heap.size = X2 at *
  have st1 := ST1'.out
  have st2 := ST2.out
  have cf1 := recC_cfg st1.blk
  have cf2 : W.rangeAt X2 0 (coldR (made x)).cfg := recC_cfg st2.blk
  change W.rangeAt X2 0 (made x).cfg at cf2
  have hcf := st1.ok.cfg
  have sC : (Try.prog.info? 56).map (·.size) = some (made x).cfg.length := by rw [st1.ok.lc]; exact sizeC
  have eC := eqCells_self hcf
  have cn2 : W.rangeAt X2 10 (coldR (made x)).cnt := recC_cnt st2.ok st2.blk
  change W.rangeAt X2 10 zerosN at cn2
  have sN : (Try.prog.info? 61).map (·.size) = some zerosN.length := sizeN
  have fN := zerosN_fits
  have eN := eqCells_self fN
  have bN := buildN
  obtain ⟨⟨A1, c1, rfl, r1⟩, ⟨A2, c2, rfl, r2⟩, ⟨A3, c3, rfl, r3⟩, ⟨A4, c4, rfl, r4⟩⟩ := st1.at'
  obtain ⟨⟨A5, c5, rfl, r5⟩, ⟨A6, c6, rfl, r6⟩, ⟨A7, c7, rfl, r7⟩, _⟩ := st2.at'
  have x1p : W.cell? ⟨X1, 6, none⟩ = some (.slice A1 (made x).ports.length c1) := (st1.blk.cell 6).trans (recC_6 st1.ok _ _ _ _)
  have x1v : W.cell? ⟨X1, 7, none⟩ = some (.slice A2 (made x).vlans.length c2) := (st1.blk.cell 7).trans (recC_7 st1.ok _ _ _ _)
  have x1s : W.cell? ⟨X1, 8, none⟩ = some (.slice A3 (made x).stat.length c3) := (st1.blk.cell 8).trans (recC_8 st1.ok _ _ _ _)
  have hpl : (coldR (made x)).ports.length = (made x).ports.length := by simp [coldR]
  have x2p : W.cell? ⟨X2, 6, none⟩ = some (.slice A5 (made x).ports.length c5) := by rw [← hpl]; exact (st2.blk.cell 6).trans (recC_6 st2.ok _ _ _ _)
  have x2v : W.cell? ⟨X2, 7, none⟩ = some (.slice A6 (made x).vlans.length c6) := (st2.blk.cell 7).trans (recC_7 st2.ok _ _ _ _)
  have x2s : W.cell? ⟨X2, 8, none⟩ = some (.slice A7 (made x).stat.length c7) := (st2.blk.cell 8).trans (recC_8 st2.ok _ _ _ _)
  have x2f : W.cell? ⟨X2, 9, none⟩ = some (.slice none 0 0) := (st2.blk.cell 9).trans (recC_9 st2.ok _ _ _ _)
  have x2b : W.cell? ⟨X2, 24, none⟩ = some (.int .i64 0) := (st2.blk.cell 24).trans (recC_24 st2.ok _ _ _ _)
  have CF1 := Lib.hid cf1
  have CF2 := Lib.hid cf2
  have HCF := Lib.hid hcf
  have SC := Lib.hid sC
  have EC := Lib.hid eC
  have CN2 := Lib.hid cn2
  have SN := Lib.hid sN
  have FN := Lib.hid fN
  have EN := Lib.hid eN
  have BN := Lib.hid bN
  have R1 := Lib.hid r1
  have R2 := Lib.hid r2
  have R3 := Lib.hid r3
  have R5 := Lib.hid r5
  have R6 := Lib.hid r6
  have R7 := Lib.hid r7
  have QM := Lib.hid q2
  have ST1 := Lib.hid st1
  have ST2' := Lib.hid st2
  clear cf1 cf2 hcf sC eC cn2 sN fN eN bN r1 r2 r3 r4 r5 r6 r7 hpl st1 st2 q2
  generalize hzn : zerosN = zn at *
  clear hzn
  go_wp2_with (first | (refine wpList_load_mid rfl 56 (.tmp 19) rfl X2 0 rfl (made x).cfg _ (by exact CF2.out) Try.underlying56 rfl SC.out ?_) | (refine wpList_load_mid rfl 56 (.tmp 21) rfl X1 0 rfl (made x).cfg _ (by exact CF1.out) Try.underlying56 rfl SC.out ?_) | (refine wpList_neq_cells rfl 56 (.tmp 20) (.tmp 22) _ rfl (made x).cfg (made x).cfg rfl rfl leavesC (by decide) aggC guardC HCF.out HCF.out ?_; rw [EC.out]) | (refine wpList_load_midG rfl 61 (.tmp 30) rfl X2 10 rfl zn _ (by exact CN2.out) Try.underlying61 rfl SN.out ?_) | (refine wpList_build0G rfl 61 rfl _ BN.out ?_) | (refine wpList_neq_cellsG rfl 61 (.tmp 31) (.tmp 32) _ rfl zn zn rfl rfl leavesN (by decide) aggN guardN FN.out FN.out ?_; rw [EN.out]))
  go_loopw [7] (fun i wr => ∃ k : Nat, k ≤ (made x).ports.length ∧ i = .int .i64 k ∧ Kept noB W wr) (fun i _ => (made x).ports.length - (intOf i).toNat)
  case atStart => exact ⟨0, Nat.zero_le _, rfl, Kept.refl _ _⟩
  case round =>
    obtain ⟨k, hk, rfl, hkr⟩ := hrel
    have hnl : (made x).ports.length ≤ 1000 := MOK.out.l1
    have y1p := hkr.cell x1p (fun e => e)
    have y2p := hkr.cell x2p (fun e => e)
    by_cases hlt : k < (made x).ports.length
    · have hki : (k : Int) < ((made x).ports.length : Int) := by omega
      obtain ⟨p, hp⟩ : ∃ p, (made x).ports[k]? = some p := ⟨_, List.getElem?_eq_getElem hlt⟩
      have hfp := fitsAll_get MOK.out.ports hp
      have hp5 : (coldR (made x)).ports[k]? = some (coldP p) := by simp [coldR, hp]
      obtain ⟨g, off, rfl, fr⟩ := (R1.out.kept hkr).get hp
      obtain ⟨g5, o5, rfl, fr5⟩ := (R5.out.kept hkr).get hp5
      have hpl : p.length = 21 := fits_length hfp
      have sP' : (Try.prog.info? 72).map (·.size) = some p.length := by rw [hpl]; exact sizeP
      have sCP : (Try.prog.info? 72).map (·.size) = some (coldP p).length := sizeP
      have FR := Lib.hid fr
      have FR5 := Lib.hid fr5
      have HFP := Lib.hid hfp
      have HPL := Lib.hid hpl
      have SP := Lib.hid sP'
      have HKR := Lib.hid hkr
      clear hp hp5 fr fr5 hfp hpl sP'
      go_wp2_with fail
      have fr := FR.out
      have fr5 := FR5.out
      have sP := SP.out
      have hok := rcOk p X1 X2 g off g5 o5 c1 c5 (made x).ports.length k 72 (coldP p) p
      have szA : (Try.prog.info? 72).map (·.size) = some (coldP p).toArray.size := sizeP
      have szB : (Try.prog.info? 72).map (·.size) = some p.toArray.size := by rw [List.size_toArray]; exact sP
      have holdA : zeroP.toArray.size = (coldP p).toArray.size := rfl
      have holdB : zeroP.toArray.size = p.toArray.size := by rw [List.size_toArray, List.size_toArray, HPL.out]; rfl
      have oneA : (coldP p).toArray.all (·.oneCell') = true := all_oneCell_toArray (one_fits (coldP_fits p))
      have oneB : p.toArray.all (·.oneCell') = true := all_oneCell_toArray (one_fits HFP.out)
      refine wp_region_invG (by kernel_rfl) (by kernel_rfl) (fun f a' wz => TW _ rcD (rcV p X1 X2 g off g5 o5 c1 c5 (made x).ports.length k) wr 72 zeroP (fun _ cs => cs = coldP p) (fun _ cs => cs = p) 10 11 12 13 8 9 TwNone f a' wz ∧ (f 10 = false → f 12 = false) ∧ (f 11 = false → f 13 = false)) ⟨TW.start, fun _ => rfl, fun _ => rfl⟩ ?_ ?_
      · intro f a' wz hIA i o ho hfi hall
        obtain ⟨hI, hA, hB2⟩ := hIA
        have hi : i < 14 := (Array.getElem?_eq_some_iff.1 ho).1
        rcases (by omega : i = 0 ∨ i = 1 ∨ i = 2 ∨ i = 3 ∨ i = 4 ∨ i = 5 ∨ i = 6 ∨ i = 7 ∨ i = 8 ∨ i = 9 ∨ i = 10 ∨ i = 11 ∨ i = 12 ∨ i = 13) with rfl | rfl | rfl | rfl | rfl | rfl | rfl | rfl | rfl | rfl | rfl | rfl | rfl | rfl
        all_goals
          simp only [List.getElem?_toArray, List.getElem?_cons_zero, List.getElem?_cons_succ, Option.some.injEq] at ho
          subst ho
        · refine .inl ⟨wanted_free rfl, ?_⟩
          refine Oper.wp_mono (K := TW _ rcD (rcV p X1 X2 g off g5 o5 c1 c5 (made x).ports.length k) wr 72 zeroP (fun _ cs => cs = coldP p) (fun _ cs => cs = p) 10 11 12 13 8 9 TwNone (fun j => decide (j = 0) || f j)) (fun _ _ h => ⟨h, fun h10 => ?_, fun h11 => ?_⟩) ?_
          · simpa using hA (by simpa using h10)
          · simpa using hB2 (by simpa using h11)
          · have e6 : a'.eval (.tmp 6) = .pointer (some ⟨X2, 0, none⟩) := hI.old (by decide)
            refine wp_value (w' := wz) ?_ (TW.valu hok hI (d := 75) (by kernel_rfl) (by decide) rfl (by decide) (by decide) (by decide) (by decide) (Kept.refl _ _))
            (unfold execOp; simp only [List.map_toArray, List.map_cons, List.map_nil, e6]; (try simp [go_sem, e6]); try omega)
        · refine .inl ⟨wanted_free rfl, ?_⟩
          refine Oper.wp_mono (K := TW _ rcD (rcV p X1 X2 g off g5 o5 c1 c5 (made x).ports.length k) wr 72 zeroP (fun _ cs => cs = coldP p) (fun _ cs => cs = p) 10 11 12 13 8 9 TwNone (fun j => decide (j = 1) || f j)) (fun _ _ h => ⟨h, fun h10 => ?_, fun h11 => ?_⟩) ?_
          · simpa using hA (by simpa using h10)
          · simpa using hB2 (by simpa using h11)
          · have e75 : a'.eval (.tmp 75) = .pointer (some ⟨X2, 6, none⟩) := TW.get hI (i := 0) (by decide) rfl (hall ⟨0, .data⟩ (by simp) rfl)
            refine wp_value (w' := wz) ?_ (TW.valu hok hI (d := 76) (by kernel_rfl) (by decide) rfl (by decide) (by decide) (by decide) (by decide) (Kept.refl _ _))
            (unfold execOp; simp only [List.map_toArray, List.map_cons, List.map_nil, e75, hI.kept.cell y2p (fun e => e)]; (try simp [go_sem, e75, hI.kept.cell y2p (fun e => e)]); try omega)
        · refine .inl ⟨wanted_free rfl, ?_⟩
          refine Oper.wp_mono (K := TW _ rcD (rcV p X1 X2 g off g5 o5 c1 c5 (made x).ports.length k) wr 72 zeroP (fun _ cs => cs = coldP p) (fun _ cs => cs = p) 10 11 12 13 8 9 TwNone (fun j => decide (j = 2) || f j)) (fun _ _ h => ⟨h, fun h10 => ?_, fun h11 => ?_⟩) ?_
          · simpa using hA (by simpa using h10)
          · simpa using hB2 (by simpa using h11)
          · have e7 : a'.eval (.tmp 7) = .int .i64 (k : Int) := hI.old (by decide)
            refine wp_value (w' := wz) ?_ (TW.valu hok hI (d := 77) (by kernel_rfl) (by decide) rfl (by decide) (by decide) (by decide) (by decide) (Kept.refl _ _))
            (unfold execOp; simp only [List.map_toArray, List.map_cons, List.map_nil, e7]; (try simp [go_sem, e7]); try omega)
        · refine .inl ⟨wanted_free rfl, ?_⟩
          refine Oper.wp_mono (K := TW _ rcD (rcV p X1 X2 g off g5 o5 c1 c5 (made x).ports.length k) wr 72 zeroP (fun _ cs => cs = coldP p) (fun _ cs => cs = p) 10 11 12 13 8 9 TwNone (fun j => decide (j = 3) || f j)) (fun _ _ h => ⟨h, fun h10 => ?_, fun h11 => ?_⟩) ?_
          · simpa using hA (by simpa using h10)
          · simpa using hB2 (by simpa using h11)
          · have e76 : a'.eval (.tmp 76) = .slice (some ⟨g5, o5, none⟩) (made x).ports.length c5 := TW.get hI (i := 1) (by decide) rfl (hall ⟨1, .data⟩ (by simp) rfl)
            have e77 : a'.eval (.tmp 77) = .int .i64 (k : Int) := TW.get hI (i := 2) (by decide) rfl (hall ⟨2, .data⟩ (by simp) rfl)
            refine wp_value (w' := wz) ?_ (TW.valu hok hI (d := 78) (by kernel_rfl) (by decide) rfl (by decide) (by decide) (by decide) (by decide) (Kept.refl _ _))
            (unfold execOp; simp only [List.map_toArray, List.map_cons, List.map_nil, e76, e77, hki]; (try simp [go_sem, e76, e77, hki]); try omega)
        · refine .inl ⟨wanted_free rfl, ?_⟩
          refine Oper.wp_mono (K := TW _ rcD (rcV p X1 X2 g off g5 o5 c1 c5 (made x).ports.length k) wr 72 zeroP (fun _ cs => cs = coldP p) (fun _ cs => cs = p) 10 11 12 13 8 9 TwNone (fun j => decide (j = 4) || f j)) (fun _ _ h => ⟨h, fun h10 => ?_, fun h11 => ?_⟩) ?_
          · simpa using hA (by simpa using h10)
          · simpa using hB2 (by simpa using h11)
          · have e78 : a'.eval (.tmp 78) = .pointer (some ⟨g5, o5 + k * 21, none⟩) := TW.get hI (i := 3) (by decide) rfl (hall ⟨3, .data⟩ (by simp) rfl)
            exact wp_load_mid _ _ rfl g5 (o5 + k * 21) e78 (coldP p) _ (rangeAt_kept fr5 hI.kept (fun e => e)) Try.underlying72 rfl sCP (TW.valu hok hI (d := 79) (by kernel_rfl) (by decide) rfl (by decide) (by decide) (by decide) (by decide) (Kept.refl _ _))
        · refine .inl ⟨wanted_free rfl, ?_⟩
          refine Oper.wp_mono (K := TW _ rcD (rcV p X1 X2 g off g5 o5 c1 c5 (made x).ports.length k) wr 72 zeroP (fun _ cs => cs = coldP p) (fun _ cs => cs = p) 10 11 12 13 8 9 TwNone (fun j => decide (j = 5) || f j)) (fun _ _ h => ⟨h, fun h10 => ?_, fun h11 => ?_⟩) ?_
          · simpa using hA (by simpa using h10)
          · simpa using hB2 (by simpa using h11)
          · have e5 : a'.eval (.tmp 5) = .pointer (some ⟨X1, 0, none⟩) := hI.old (by decide)
            refine wp_value (w' := wz) ?_ (TW.valu hok hI (d := 80) (by kernel_rfl) (by decide) rfl (by decide) (by decide) (by decide) (by decide) (Kept.refl _ _))
            (unfold execOp; simp only [List.map_toArray, List.map_cons, List.map_nil, e5]; (try simp [go_sem, e5]); try omega)
        · refine .inl ⟨wanted_free rfl, ?_⟩
          refine Oper.wp_mono (K := TW _ rcD (rcV p X1 X2 g off g5 o5 c1 c5 (made x).ports.length k) wr 72 zeroP (fun _ cs => cs = coldP p) (fun _ cs => cs = p) 10 11 12 13 8 9 TwNone (fun j => decide (j = 6) || f j)) (fun _ _ h => ⟨h, fun h10 => ?_, fun h11 => ?_⟩) ?_
          · simpa using hA (by simpa using h10)
          · simpa using hB2 (by simpa using h11)
          · have e80 : a'.eval (.tmp 80) = .pointer (some ⟨X1, 6, none⟩) := TW.get hI (i := 5) (by decide) rfl (hall ⟨5, .data⟩ (by simp) rfl)
            refine wp_value (w' := wz) ?_ (TW.valu hok hI (d := 81) (by kernel_rfl) (by decide) rfl (by decide) (by decide) (by decide) (by decide) (Kept.refl _ _))
            (unfold execOp; simp only [List.map_toArray, List.map_cons, List.map_nil, e80, hI.kept.cell y1p (fun e => e)]; (try simp [go_sem, e80, hI.kept.cell y1p (fun e => e)]); try omega)
        · refine .inl ⟨wanted_free rfl, ?_⟩
          refine Oper.wp_mono (K := TW _ rcD (rcV p X1 X2 g off g5 o5 c1 c5 (made x).ports.length k) wr 72 zeroP (fun _ cs => cs = coldP p) (fun _ cs => cs = p) 10 11 12 13 8 9 TwNone (fun j => decide (j = 7) || f j)) (fun _ _ h => ⟨h, fun h10 => ?_, fun h11 => ?_⟩) ?_
          · simpa using hA (by simpa using h10)
          · simpa using hB2 (by simpa using h11)
          · have e7 : a'.eval (.tmp 7) = .int .i64 (k : Int) := hI.old (by decide)
            refine wp_value (w' := wz) ?_ (TW.valu hok hI (d := 82) (by kernel_rfl) (by decide) rfl (by decide) (by decide) (by decide) (by decide) (Kept.refl _ _))
            (unfold execOp; simp only [List.map_toArray, List.map_cons, List.map_nil, e7]; (try simp [go_sem, e7]); try omega)
        · refine .inl ⟨wanted_free rfl, ?_⟩
          refine Oper.wp_mono (K := TW _ rcD (rcV p X1 X2 g off g5 o5 c1 c5 (made x).ports.length k) wr 72 zeroP (fun _ cs => cs = coldP p) (fun _ cs => cs = p) 10 11 12 13 8 9 TwNone (fun j => decide (j = 8) || f j)) (fun _ _ h => ⟨h, fun h10 => ?_, fun h11 => ?_⟩) ?_
          · simpa using hA (by simpa using h10)
          · simpa using hB2 (by simpa using h11)
          · have e81 : a'.eval (.tmp 81) = .slice (some ⟨g, off, none⟩) (made x).ports.length c1 := TW.get hI (i := 6) (by decide) rfl (hall ⟨6, .data⟩ (by simp) rfl)
            have e82 : a'.eval (.tmp 82) = .int .i64 (k : Int) := TW.get hI (i := 7) (by decide) rfl (hall ⟨7, .data⟩ (by simp) rfl)
            refine wp_value (w' := wz) ?_ (TW.valu hok hI (d := 83) (by kernel_rfl) (by decide) rfl (by decide) (by decide) (by decide) (by decide) (Kept.refl _ _))
            (unfold execOp; simp only [List.map_toArray, List.map_cons, List.map_nil, e81, e82, hki]; (try simp [go_sem, e81, e82, hki]); try omega)
        · refine .inl ⟨wanted_free rfl, ?_⟩
          refine Oper.wp_mono (K := TW _ rcD (rcV p X1 X2 g off g5 o5 c1 c5 (made x).ports.length k) wr 72 zeroP (fun _ cs => cs = coldP p) (fun _ cs => cs = p) 10 11 12 13 8 9 TwNone (fun j => decide (j = 9) || f j)) (fun _ _ h => ⟨h, fun h10 => ?_, fun h11 => ?_⟩) ?_
          · simpa using hA (by simpa using h10)
          · simpa using hB2 (by simpa using h11)
          · have e83 : a'.eval (.tmp 83) = .pointer (some ⟨g, off + k * 21, none⟩) := TW.get hI (i := 8) (by decide) rfl (hall ⟨8, .data⟩ (by simp) rfl)
            exact wp_load_mid _ _ rfl g (off + k * 21) e83 p _ (rangeAt_kept fr hI.kept (fun e => e)) Try.underlying72 rfl sP (TW.valu hok hI (d := 84) (by kernel_rfl) (by decide) rfl (by decide) (by decide) (by decide) (by decide) (Kept.refl _ _))
        · refine .inl ⟨wanted_free rfl, ?_⟩
          refine Oper.wp_mono (K := TW _ rcD (rcV p X1 X2 g off g5 o5 c1 c5 (made x).ports.length k) wr 72 zeroP (fun _ cs => cs = coldP p) (fun _ cs => cs = p) 10 11 12 13 8 9 TwNone (fun j => decide (j = 10) || f j)) (fun _ _ h => ⟨h, fun h10 => ?_, fun h11 => ?_⟩) ?_
          · simp at h10
          · simpa using hB2 (by simpa using h11)
          · have hphase : ∀ j, j = 12 → f j = false := fun j e => by subst e; exact hA hfi
            refine wp_value (w' := wz.alloc (.cells zeroP.toArray 72)) ?_ (TW.allocA hok hI (by kernel_rfl) (hphase 12 rfl))
            unfold execOp
            exact run_val (run_allocP wz)
        · refine .inl ⟨wanted_free rfl, ?_⟩
          refine Oper.wp_mono (K := TW _ rcD (rcV p X1 X2 g off g5 o5 c1 c5 (made x).ports.length k) wr 72 zeroP (fun _ cs => cs = coldP p) (fun _ cs => cs = p) 10 11 12 13 8 9 TwNone (fun j => decide (j = 11) || f j)) (fun _ _ h => ⟨h, fun h10 => ?_, fun h11 => ?_⟩) ?_
          · simpa using hA (by simpa using h10)
          · simp at h11
          · have hphase : ∀ j, j = 13 → f j = false := fun j e => by subst e; exact hB2 hfi
            refine wp_value (w' := wz.alloc (.cells zeroP.toArray 72)) ?_ (TW.allocB hok hI (by kernel_rfl) (hphase 13 rfl))
            unfold execOp
            exact run_val (run_allocP wz)
        · refine .inl ⟨wanted_free rfl, ?_⟩
          refine Oper.wp_mono (K := TW _ rcD (rcV p X1 X2 g off g5 o5 c1 c5 (made x).ports.length k) wr 72 zeroP (fun _ cs => cs = coldP p) (fun _ cs => cs = p) 10 11 12 13 8 9 TwNone (fun j => decide (j = 12) || f j)) (fun _ _ h => ⟨h, fun h10 => ?_, fun h11 => ?_⟩) ?_
          · have h9 : f 10 = true := hall ⟨10, .data⟩ (by simp) rfl
            simp [h9] at h10
          · simpa using hB2 (by simpa using h11)
          · obtain ⟨gg, e8, hbb, hst⟩ := TW.storeA hok hI (by kernel_rfl) (hall ⟨10, .data⟩ (by simp) rfl) hfi (cs := (coldP p)) rfl
            have e79 : a'.eval (.tmp 79) = .agg (coldP p).toArray := TW.get hI (i := 4) (by decide) rfl (hall ⟨4, .data⟩ (by simp) rfl)
            exact wp_store_row 72 (.tmp 8) (.tmp 79) rfl gg (coldP p).toArray e8 e79 72 zeroP.toArray hbb szA holdA oneA (hst undef)
        · refine .inl ⟨wanted_free rfl, ?_⟩
          refine Oper.wp_mono (K := TW _ rcD (rcV p X1 X2 g off g5 o5 c1 c5 (made x).ports.length k) wr 72 zeroP (fun _ cs => cs = coldP p) (fun _ cs => cs = p) 10 11 12 13 8 9 TwNone (fun j => decide (j = 13) || f j)) (fun _ _ h => ⟨h, fun h10 => ?_, fun h11 => ?_⟩) ?_
          · simpa using hA (by simpa using h10)
          · have h9 : f 11 = true := hall ⟨11, .data⟩ (by simp) rfl
            simp [h9] at h11
          · obtain ⟨gg, e9, hbb, hst⟩ := TW.storeB hok hI (by kernel_rfl) (hall ⟨11, .data⟩ (by simp) rfl) hfi (cs := p) rfl
            have e84 : a'.eval (.tmp 84) = .agg p.toArray := TW.get hI (i := 9) (by decide) rfl (hall ⟨9, .data⟩ (by simp) rfl)
            exact wp_store_row 72 (.tmp 9) (.tmp 84) rfl gg p.toArray e9 e84 72 zeroP.toArray hbb szB holdB oneB (hst undef)
      · intro f a' wz hf hIA
        obtain ⟨g8, g9, cs8, cs9, e8, e9, hne, hg8, hg9, b8, b9, hq8, hq9, kz⟩ := TW.finish hIA.1 hok (hf 10 (by decide)) (hf 11 (by decide)) (hf 12 (by decide)) (hf 13 (by decide))
        rw [hq8] at b8
        rw [hq9] at b9
        clear hq8 hq9
        have ho := hIA.1.slots.out
        clear hIA hf
        simp only [rcD, List.foldl_cons, List.foldl_nil] at ho
        rw [e8, e9] at ho
        generalize a'.tmps.getD 75 undef = y75 at *
        generalize a'.tmps.getD 76 undef = y76 at *
        generalize a'.tmps.getD 77 undef = y77 at *
        generalize a'.tmps.getD 78 undef = y78 at *
        generalize a'.tmps.getD 79 undef = y79 at *
        generalize a'.tmps.getD 80 undef = y80 at *
        generalize a'.tmps.getD 81 undef = y81 at *
        generalize a'.tmps.getD 82 undef = y82 at *
        generalize a'.tmps.getD 83 undef = y83 at *
        generalize a'.tmps.getD 84 undef = y84 at *
        clear e8 e9
        simp only [List.setIfInBounds_toArray, List.set_cons_zero, List.set_cons_succ] at ho
        subst ho
        have hkz := HKR.out.no kz
        have hc3 := HFP.out
        have p3 : wz.cell? ⟨g9, 3, none⟩ = some (.int .u32 (intAt p 3)) := (b9.cell 3).trans (int_at hc3 rfl)
        have p4 : wz.cell? ⟨g9, 4, none⟩ = some (.int .i64 (intAt p 4)) := (b9.cell 4).trans (int_at hc3 rfl)
        have p5 : wz.cell? ⟨g9, 5, none⟩ = some (.bool (boolAt p 5)) := (b9.cell 5).trans (bool_at hc3 rfl)
        have p6 : wz.cell? ⟨g9, 6, none⟩ = some (.bool (boolAt p 6)) := (b9.cell 6).trans (bool_at hc3 rfl)
        have p7 : wz.cell? ⟨g9, 7, none⟩ = some (.bool (boolAt p 7)) := (b9.cell 7).trans (bool_at hc3 rfl)
        have p0 : wz.rangeAt g9 0 [.int .u16 (intAt p 0), .int .i64 (intAt p 1), .bool (boolAt p 2)] := b9.range (fun j v hv => by
          match j, hv with
          | 0, hv => rw [← hv]; exact int_at hc3 rfl
          | 1, hv => rw [← hv]; exact int_at hc3 rfl
          | 2, hv => rw [← hv]; exact bool_at hc3 rfl
          | j + 3, hv => simp at hv)
        have hz := Blk.new wz 72 zeroP
        have b10 := hz.row (coldP p)
        have k5 : Kept noB wz ((wz.alloc (.cells zeroP.toArray 72)).setRow wz.heap.size (coldP p).toArray) := ((Kept.refl _ _).alloc _).setRow (fun h => absurd h (Nat.lt_irrefl _)) _
        have P7 := Lib.hid (bool_at hc3 (i := 7) rfl)
        have P6 := Lib.hid (bool_at hc3 (i := 6) rfl)
        have P4 := Lib.hid (int_at hc3 (i := 4) (k := .i64) rfl)
        have hdef : coldP p = [.int .u16 (intAt p 0), .int .i64 (intAt p 1), .bool (boolAt p 2), .int .u32 (intAt p 3), .int .i64 (intAt p 4), .bool (boolAt p 5), .bool (boolAt p 6), .bool (boolAt p 7), .bool false, .bool false, .int .i64 0, .int .i64 0, .int .i64 0, .int .u64 0, .int .u32 0, .int .u64 0, .int .u16 0, .int .i64 0, .int .i64 0, .int .i64 0, .int .i64 0] := rfl
        have cfit := coldP_fits p
        have q1 := fun w => on_calls p w hc3
        have q2 := fun z w => id_calls p z w hc3
        have HDEF := Lib.hid hdef
        have B8 := Lib.hid b8
        have B9 := Lib.hid b9
        have B10 := Lib.hid b10
        have K5 := Lib.hid k5
        have CFIT := Lib.hid cfit
        have HKZ := Lib.hid hkz
        have Q1 := Lib.hid q1
        have Q2 := Lib.hid q2
        clear hdef b8 b9 b10 k5 cfit hkz q1 q2 hc3 kz hok fr fr5 sP szB holdB oneB hg8 hg9 hne
        have HON : Hid (onB p = (boolAt p 7 && boolAt p 6)) := Lib.hid rfl
        have HID : Hid (∀ z, idOf p z = IntKind.u16.wrap (wrap64 (wrap64 (intAt p 4 * 4096) + z))) := Lib.hid (fun _ => rfl)
        generalize intAt p 0 = z0 at *
        generalize intAt p 1 = z1 at *
        generalize boolAt p 2 = z2 at *
        generalize intAt p 3 = z3 at *
        generalize intAt p 4 = z4 at *
        generalize boolAt p 5 = z5 at *
        generalize boolAt p 6 = z6 at *
        generalize boolAt p 7 = z7 at *
        generalize coldP p = cp at *
        generalize onB p = on at *
        go_upto_region 12 with (first | (refine wpList_load_mid rfl 68 (.tmp 85) rfl g9 0 rfl [.int .u16 z0, .int .i64 z1, .bool z2] _ (by exact p0) Try.underlying68 rfl sizeCP ?_) | (refine wpList_store_row rfl 72 (.tmp 10) (.tmp 97) rfl wz.heap.size cp.toArray rfl (by rw [HDEF.out]; rfl) _ zeroP.toArray (by exact hz) szA holdA oneA ?_))
        change Code.wp _ _ _ _ ((wz.alloc (.cells zeroP.toArray 72)).setRow wz.heap.size cp.toArray)
        have b8 := B8.out.kept K5.out (fun e => e)
        have b9 := B9.out.kept K5.out (fun e => e)
        have b10 := B10.out
        have hkw := HKZ.out.no K5.out
        clear hz szA holdA oneA p0 p3 p4 p5 p6 p7 B8 B9 B10 K5 HKZ
        generalize (wz.alloc (.cells zeroP.toArray 72)).setRow wz.heap.size cp.toArray = W5 at *
        generalize wz.heap.size = g10 at *
        have scp : (Try.prog.info? 72).map (·.size) = some cp.toArray.size := by rw [List.size_toArray, fits_length CFIT.out]; exact sizeP
        have spp : (Try.prog.info? 72).map (·.size) = some p.toArray.size := by rw [List.size_toArray, HPL.out]; exact sizeP
        have hrow8 : ∀ w', (∃ p : Regrown, w' = Sort.grow (redrawn W5 p.d) p.os) → w'.heap[g8]? = some (.cells cp.toArray 72 (0, 0)) := by
          rintro _ ⟨p, rfl⟩
          exact b8.kept (Kept.regrown W5 p.d p.os) (fun e => e)
        have hrow9 : ∀ w', (∃ p : Regrown, w' = Sort.grow (redrawn W5 p.d) p.os) → w'.heap[g9]? = some (.cells p.toArray 72 (0, 0)) := by
          rintro _ ⟨p, rfl⟩
          exact b9.kept (Kept.regrown W5 p.d p.os) (fun e => e)
        have hrow10 : ∀ w', (∃ p : Regrown, w' = Sort.grow (redrawn W5 p.d) p.os) → w'.heap[g10]? = some (.cells cp.toArray 72 (0, 0)) := by
          rintro _ ⟨p, rfl⟩
          exact b10.kept (Kept.regrown W5 p.d p.os) (fun e => e)
        have v7 : ∀ d os, (Sort.grow (redrawn W5 d) os).cell? ⟨g9, 7, none⟩ = some (.bool z7) := fun d os => ((b9.kept (Kept.regrown W5 d os) (fun e => e)).cell 7).trans (P7.out)
        have v6 : ∀ d os, (Sort.grow (redrawn W5 d) os).cell? ⟨g9, 6, none⟩ = some (.bool z6) := fun d os => ((b9.kept (Kept.regrown W5 d os) (fun e => e)).cell 6).trans (P6.out)
        have v4 : ∀ d os, (Sort.grow (redrawn W5 d) os).cell? ⟨g9, 4, none⟩ = some (.int .i64 z4) := fun d os => ((b9.kept (Kept.regrown W5 d os) (fun e => e)).cell 4).trans (P4.out)
        have c1 := Calls.qkept (w := W5) (fun w1 _ => Q1.out w1)
        have c2 := fun z => Calls.qkept (w := W5) (fun w1 _ => Q2.out z w1)
        have eqc := eqCells_self CFIT.out
        have hon := HON.out
        clear b8 b9 b10
        subst hon
        have hne := fun z => id_eq z4 z
        have hidf : ∀ z, (idOf p z != IntKind.u16.wrap (IntKind.u64.wrap (IntKind.u64.wrap (IntKind.u64.wrap z4 * 4096) + IntKind.u64.wrap z))) = false := fun z => by rw [HID.out z]; exact hne z
        clear hne
        cases z7
        all_goals simp only [Bool.true_and, Bool.false_and] at c1
        all_goals
          refine wp_region_quiet_below (by kernel_rfl) (by kernel_rfl) ?_
          repeat (first | (first | refine wpQuiet_load_rowG rfl _ (.tmp 8) rfl g8 rfl _ cp.toArray _ _ hrow8 Try.underlying72 rfl scp ?_ | refine wpQuiet_load_rowG rfl _ (.tmp 10) rfl g10 rfl _ cp.toArray _ _ hrow10 Try.underlying72 rfl scp ?_ | refine wpQuiet_load_rowG rfl _ (.tmp 9) rfl g9 rfl _ p.toArray _ _ hrow9 Try.underlying72 rfl spp ?_ | (refine wpQuiet_neq_cells rfl _ (.tmp 98) (.tmp 99) _ rfl cp cp rfl rfl leavesP (by decide) aggP guardP CFIT.out CFIT.out ?_; rw [eqc])) | quiet_step (first | with_reducible exact c1 _ _ | with_reducible exact c2 _ _ _))
          refine wpQuiet_nil ?_
          intro _ hw'
          obtain ⟨⟨dq, osq⟩, hw''⟩ := hw'
          subst hw''
          have kR := hkw.no (Kept.regrown W5 dq osq)
          have KR := Lib.hid kR
          clear kR hkw hrow8 hrow9 hrow10 v7 v6 v4 c1 c2 eqc hidf scp spp
          generalize Sort.grow (redrawn W5 dq) osq = W6 at *
          go_wp2_with fail
          go_roundw
          case rel => exact ⟨k + 1, by omega, by go_num, KR.out⟩
          case measure => simp [intOf]; omega

    · have HKR11 := Lib.hid hkr
      clear hkr
      go_wp2_with fail
      go_loopw [11] (fun i wx => ∃ k : Nat, k ≤ (made x).vlans.length ∧ i = .int .i64 k ∧ Kept noB W wx) (fun i _ => (made x).vlans.length - (intOf i).toNat)
      case atStart => exact ⟨0, Nat.zero_le _, rfl, HKR11.out⟩
      case round =>
        clear HKR11
        rename World => wq11
        obtain ⟨k, hk, rfl, hkr⟩ := hrel
        have hnl : (made x).vlans.length ≤ 1000 := MOK.out.l2
        have y1 := hkr.cell x1v (fun e => e)
        have y2 := hkr.cell x2v (fun e => e)
        by_cases hlt : k < (made x).vlans.length
        · have hki : (k : Int) < ((made x).vlans.length : Int) := by omega
          obtain ⟨p, hp⟩ : ∃ p, (made x).vlans[k]? = some p := ⟨_, List.getElem?_eq_getElem hlt⟩
          have hfp := fitsAll_get MOK.out.vlans hp
          obtain ⟨g, off, hA, fr⟩ := (R2.out.kept hkr).get hp
          obtain ⟨g5, o5, hA5, fr5⟩ := (R6.out.kept hkr).get hp
          rw [hA] at y1
          rw [hA5] at y2
          have hpl : p.length = 3 := fits_length hfp
          have sP' : (Try.prog.info? 75).map (·.size) = some p.length := by rw [hpl]; exact sizeV
          have hgA : ∀ w1, (∃ m, w1 = wq11.drewN m) → w1.rangeAt g (off + k * 3) p := by
            rintro _ ⟨m, rfl⟩
            exact fr
          have hgB : ∀ w1, (∃ m, w1 = wq11.drewN m) → w1.rangeAt g5 (o5 + k * 3) p := by
            rintro _ ⟨m, rfl⟩
            exact fr5
          have eqc := eqCells_self hfp
          have HA := Lib.hid hgA
          have HB' := Lib.hid hgB
          have HFP := Lib.hid hfp
          have SP := Lib.hid sP'
          have EQ := Lib.hid eqc
          have HKR := Lib.hid hkr
          clear hp fr fr5 hfp hpl sP' hgA hgB eqc hkr hA hA5
          go_wp2_with fail
          refine wp_region_quiet_lit (by kernel_rfl) (by kernel_rfl) ?_
          repeat (first | (first | refine wpQuiet_load_mid rfl _ (.tmp 138) rfl g5 _ rfl p _ HB'.out Try.underlying75 rfl SP.out ?_ | refine wpQuiet_load_mid rfl _ (.tmp 143) rfl g _ rfl p _ HA.out Try.underlying75 rfl SP.out ?_ | (refine wpQuiet_neq_cells rfl _ _ _ _ rfl p p rfl rfl leavesV (by decide) aggV guardV HFP.out HFP.out ?_; rw [EQ.out])) | quiet_step (fail))
          refine wpQuiet_nil ?_
          intro _ hw'
          obtain ⟨nq, hw''⟩ := hw'
          subst hw''
          go_wp2_with fail
          go_roundw
          case rel => exact ⟨k + 1, by omega, by go_num, HKR.out.drewN _⟩
          case measure => simp [intOf]; omega
        · have HKR12 := Lib.hid hkr
          clear hkr
          go_wp2_with fail
          go_loopw [12] (fun i wx => ∃ k : Nat, k ≤ (made x).stat.length ∧ i = .int .i64 k ∧ Kept noB W wx) (fun i _ => (made x).stat.length - (intOf i).toNat)
          case atStart => exact ⟨0, Nat.zero_le _, rfl, HKR12.out⟩
          case round =>
            clear HKR12
            rename World => wq12
            obtain ⟨k, hk, rfl, hkr⟩ := hrel
            have hnl : (made x).stat.length ≤ 1000 := MOK.out.l3
            have y1 := hkr.cell x1s (fun e => e)
            have y2 := hkr.cell x2s (fun e => e)
            by_cases hlt : k < (made x).stat.length
            · have hki : (k : Int) < ((made x).stat.length : Int) := by omega
              obtain ⟨p, hp⟩ : ∃ p, (made x).stat[k]? = some p := ⟨_, List.getElem?_eq_getElem hlt⟩
              have hfp := fitsAll_get MOK.out.stat hp
              obtain ⟨g, off, hA, fr⟩ := (R3.out.kept hkr).get hp
              obtain ⟨g5, o5, hA5, fr5⟩ := (R7.out.kept hkr).get hp
              rw [hA] at y1
              rw [hA5] at y2
              have hpl : p.length = 8 := fits_length hfp
              have sP' : (Try.prog.info? 81).map (·.size) = some p.length := by rw [hpl]; exact sizeS
              have hgA : ∀ w1, (∃ m, w1 = wq12.drewN m) → w1.rangeAt g (off + k * 8) p := by
                rintro _ ⟨m, rfl⟩
                exact fr
              have hgB : ∀ w1, (∃ m, w1 = wq12.drewN m) → w1.rangeAt g5 (o5 + k * 8) p := by
                rintro _ ⟨m, rfl⟩
                exact fr5
              have eqc := eqCells_self hfp
              have HA := Lib.hid hgA
              have HB' := Lib.hid hgB
              have HFP := Lib.hid hfp
              have SP := Lib.hid sP'
              have EQ := Lib.hid eqc
              have HKR := Lib.hid hkr
              clear hp fr fr5 hfp hpl sP' hgA hgB eqc hkr hA hA5
              go_wp2_with fail
              refine wp_region_quiet_lit (by kernel_rfl) (by kernel_rfl) ?_
              repeat (first | (first | refine wpQuiet_load_mid rfl _ (.tmp 156) rfl g5 _ rfl p _ HB'.out Try.underlying81 rfl SP.out ?_ | refine wpQuiet_load_mid rfl _ (.tmp 161) rfl g _ rfl p _ HA.out Try.underlying81 rfl SP.out ?_ | (refine wpQuiet_neq_cells rfl _ _ _ _ rfl p p rfl rfl leavesS (by decide) aggS guardS HFP.out HFP.out ?_; rw [EQ.out])) | quiet_step (fail))
              refine wpQuiet_nil ?_
              intro _ hw'
              obtain ⟨nq, hw''⟩ := hw'
              subst hw''
              go_wp2_with fail
              go_roundw
              case rel => exact ⟨k + 1, by omega, by go_num, HKR.out.drewN _⟩
              case measure => simp [intOf]; omega
            · have hkw9 := HKW5.out.no hkr
              have st1 := ST1.out.kept hkr
              have st2 := ST2'.out.kept hkr
              have hb9 := HB5.out.kept hkr (fun e => e)
              have hsame1 : ∀ wz, Kept noB wq12 wz → ∀ P V S F, RecAt wz (made x) P V S F → Calls Try.prog 33 #[.agg (recC (made x) (.slice A1 (made x).ports.length c1) (.slice A2 (made x).vlans.length c2) (.slice A3 (made x).stat.length c3) (.slice A4 (made x).fdb.length c4)).toArray, .agg (recC (made x) P V S F).toArray] wz fun e w' => e = .returned (.bool true) ∧ Kept noB wz w' := fun wz hk P V S F hat => by
                have := same_calls (made x) (made x) _ _ _ _ P V S F wz MOK.out MOK.out (st1.at'.kept hk) hat
                rwa [sameR_self MOK.out] at this
              have hcold2 : ∀ wz, Kept noB wq12 wz → Calls Try.prog 30 #[.agg (recC (coldR (made x)) (.slice A5 (coldR (made x)).ports.length c5) (.slice A6 (coldR (made x)).vlans.length c6) (.slice A7 (coldR (made x)).stat.length c7) (.slice none 0 0)).toArray] wz fun e w' => ∃ P V S, e = .returned (.agg (recC (coldR (made x)) P V S (.slice none 0 0)).toArray) ∧ RecOwn wz.heap.size w' (coldR (made x)) P V S (.slice none 0 0) ∧ Kept noB wz w' := fun wz hk => by
                have := cold_calls (coldR (made x)) _ _ _ _ wz cok (st2.at'.kept hk)
                rwa [coldR_twice] at this
              have hsame2 : ∀ wz, Kept noB wq12 wz → ∀ P V S, RecAt wz (coldR (made x)) P V S (.slice none 0 0) → Calls Try.prog 33 #[.agg (recC (coldR (made x)) P V S (.slice none 0 0)).toArray, .agg (recC (coldR (made x)) (.slice A5 (coldR (made x)).ports.length c5) (.slice A6 (coldR (made x)).vlans.length c6) (.slice A7 (coldR (made x)).stat.length c7) (.slice none 0 0)).toArray] wz fun e w' => e = .returned (.bool true) ∧ Kept noB wz w' := fun wz hk P V S hat => by
                have := same_calls (coldR (made x)) (coldR (made x)) P V S (.slice none 0 0) _ _ _ _ wz cok cok hat (st2.at'.kept hk)
                rwa [sameR_self cok] at this
              have COK := Lib.hid cok
              have k1 := st1.blk.range (xs := (recC (made x) (.slice A1 (made x).ports.length c1) (.slice A2 (made x).vlans.length c2) (.slice A3 (made x).stat.length c3) (.slice A4 (made x).fdb.length c4))) (o := 0) (fun j v hv => by rwa [Nat.zero_add])
              have k2 := st2.blk.range (xs := (recC (coldR (made x)) (.slice A5 (coldR (made x)).ports.length c5) (.slice A6 (coldR (made x)).vlans.length c6) (.slice A7 (coldR (made x)).stat.length c7) (.slice none 0 0))) (o := 0) (fun j v hv => by rwa [Nat.zero_add])
              have k0 := hb9.range (xs := xc) (o := 0) (fun j v hv => by rwa [Nat.zero_add])
              have sz1 : (Try.prog.info? 63).map (·.size) = some ((recC (made x) (.slice A1 (made x).ports.length c1) (.slice A2 (made x).vlans.length c2) (.slice A3 (made x).stat.length c3) (.slice A4 (made x).fdb.length c4))).length := by rw [recC_len MOK.out]; exact sizeR
              have sz2 : (Try.prog.info? 63).map (·.size) = some ((recC (coldR (made x)) (.slice A5 (coldR (made x)).ports.length c5) (.slice A6 (coldR (made x)).vlans.length c6) (.slice A7 (coldR (made x)).stat.length c7) (.slice none 0 0))).length := by rw [recC_len cok]; exact sizeR
              have sz0 : (Try.prog.info? 53).map (·.size) = some xc.length := by rw [← List.size_toArray]; exact hsx
              have HS1 := Lib.hid hsame1
              have HC2 := Lib.hid hcold2
              have HS2 := Lib.hid hsame2
              have K0 := Lib.hid k0
              have K1 := Lib.hid k1
              have K2 := Lib.hid k2
              have SZ0 := Lib.hid sz0
              have SZ1 := Lib.hid sz1
              have SZ2 := Lib.hid sz2
              have KW9 := Lib.hid hkw9
              clear st1 st2 hb9 hsame1 hcold2 hsame2 cok k0 k1 k2 sz0 sz1 sz2 hkw9 hkr
              generalize (recC (made x) (.slice A1 (made x).ports.length c1) (.slice A2 (made x).vlans.length c2) (.slice A3 (made x).stat.length c3) (.slice A4 (made x).fdb.length c4)) = s1 at *
              generalize (recC (coldR (made x)) (.slice A5 (coldR (made x)).ports.length c5) (.slice A6 (coldR (made x)).vlans.length c6) (.slice A7 (coldR (made x)).stat.length c7) (.slice none 0 0)) = s2 at *
              go_wp2_with fail
              have hsame1 := HS1.out
              have hcold2 := HC2.out
              have hsame2 := HS2.out
              have k0 := K0.out
              have k1 := K1.out
              have k2 := K2.out
              have sz0 := SZ0.out
              have sz1 := SZ1.out
              have sz2 := SZ2.out
              have hkw9 := KW9.out
              have hex := r24E_kept wq12.heap.size (made x)
              refine wp_region_invG (by kernel_rfl) (by kernel_rfl) (Slots _ r24D (valS (r24V xc s1 s2) (r24E wq12.heap.size (made x))) (fun _ wz => Kept noB wq12 wz)) (Slots.start (Kept.refl _ _).drew) ?_ ?_
              · intro f a' wz hI i o ho hfi hall
                have hi : i < 11 := (Array.getElem?_eq_some_iff.1 ho).1
                have hW := hI.world
                rcases (by omega : i = 0 ∨ i = 1 ∨ i = 2 ∨ i = 3 ∨ i = 4 ∨ i = 5 ∨ i = 6 ∨ i = 7 ∨ i = 8 ∨ i = 9 ∨ i = 10) with rfl | rfl | rfl | rfl | rfl | rfl | rfl | rfl | rfl | rfl | rfl
                all_goals
                  simp only [List.getElem?_toArray, List.getElem?_cons_zero, List.getElem?_cons_succ, Option.some.injEq] at ho
                  subst ho
                · refine .inl ⟨wanted_free rfl, ?_⟩
                  have e5 : a'.eval (.tmp 5) = .pointer (some ⟨X1, 0, none⟩) := hI.old (by decide)
                  exact wp_load_mid _ _ rfl X1 0 e5 s1 _ (rangeAt_kept k1 hW (fun e => e)) Try.underlying63 rfl sz1 (VS.step hI (d := 164) (by kernel_rfl) (by decide) rfl (hW.no (Kept.refl _ _)) (Kept.refl _ _) hex)
                · refine .inl ⟨wanted_free rfl, ?_⟩
                  have e2 : a'.eval (.tmp 2) = .pointer (some ⟨B, 0, none⟩) := hI.old (by decide)
                  exact wp_load_mid _ _ rfl B 0 e2 xc _ (rangeAt_kept k0 hW (fun e => e)) Try.underlying53 rfl sz0 (VS.step hI (d := 165) (by kernel_rfl) (by decide) rfl (hW.no (Kept.refl _ _)) (Kept.refl _ _) hex)
                · refine .inl ⟨wanted_free rfl, ?_⟩
                  have e165 : a'.eval (.tmp 165) = .agg xc.toArray := hI.eval (k := 1) (by decide) (hall ⟨1, .data⟩ (by simp) rfl)
                  refine wp_go Try.func29 rfl rfl (args := #[.agg xc.toArray]) (by simp only [List.map_toArray, List.map_cons, List.map_nil, e165]) ((QM.out wz (hkw9.no hW)).mono ?_)
                  rintro e w' ⟨P, V, S, F, rfl, own, hk⟩
                  exact ⟨_, rfl, VS.put hI (d := 166) (by kernel_rfl) (by decide) (fun _ => ⟨P, V, S, F, rfl, own.base hW.size⟩) (hW.no hk) hk hex⟩
                · refine .inl ⟨wanted_free rfl, ?_⟩
                  have e164 : a'.eval (.tmp 164) = .agg s1.toArray := hI.eval (k := 0) (by decide) (hall ⟨0, .data⟩ (by simp) rfl)
                  have e166 := hI.eval (k := 2) (d := 166) (by decide) (hall ⟨2, .data⟩ (by simp) rfl)
                  obtain ⟨P, V, S, F, e166, own⟩ := e166
                  change a'.eval (.tmp 166) = _ at e166
                  refine wp_go Try.func33 rfl rfl (args := #[.agg s1.toArray, .agg (recC (made x) P V S F).toArray]) (by simp only [List.map_toArray, List.map_cons, List.map_nil, e164, e166]) ((hsame1 wz hW P V S F (own.at MOK.out)).mono ?_)
                  rintro e w' ⟨rfl, hk⟩
                  exact ⟨_, rfl, VS.step hI (d := 167) (by kernel_rfl) (by decide) rfl (hW.no hk) hk hex⟩
                · refine .inl ⟨wanted_free rfl, ?_⟩
                  have e167 : a'.eval (.tmp 167) = .bool true := hI.eval (k := 3) (by decide) (hall ⟨3, .data⟩ (by simp) rfl)
                  refine wp_value (w' := wz) ?_ (VS.step hI (d := 168) (by kernel_rfl) (by decide) rfl (hW.no (Kept.refl _ _)) (Kept.refl _ _) hex)
                  (unfold execOp; simp only [List.map_toArray, List.map_cons, List.map_nil, e167]; (try simp [go_sem, e167]); try omega)
                · have e168 : a'.eval (.tmp 168) = .bool true := hI.eval (k := 4) (by decide) (hall ⟨4, .guard⟩ (by simp) rfl)
                  refine .inl ⟨wanted_yes rfl (d := 168) rfl e168, ?_⟩
                  have e6 : a'.eval (.tmp 6) = .pointer (some ⟨X2, 0, none⟩) := hI.old (by decide)
                  exact wp_load_mid _ _ rfl X2 0 e6 s2 _ (rangeAt_kept k2 hW (fun e => e)) Try.underlying63 rfl sz2 (VS.step hI (d := 169) (by kernel_rfl) (by decide) rfl (hW.no (Kept.refl _ _)) (Kept.refl _ _) hex)
                · have e168 : a'.eval (.tmp 168) = .bool true := hI.eval (k := 4) (by decide) (hall ⟨4, .chain⟩ (by simp) rfl)
                  refine .inl ⟨wanted_yes rfl (d := 168) rfl e168, ?_⟩
                  have e169 : a'.eval (.tmp 169) = .agg s2.toArray := hI.eval (k := 5) (by decide) (hall ⟨5, .data⟩ (by simp) rfl)
                  refine wp_go Try.func30 rfl rfl (args := #[.agg s2.toArray]) (by simp only [List.map_toArray, List.map_cons, List.map_nil, e169]) ((hcold2 wz hW).mono ?_)
                  rintro e w' ⟨P, V, S, rfl, own, hk⟩
                  exact ⟨_, rfl, VS.put hI (d := 170) (by kernel_rfl) (by decide) (fun _ => ⟨P, V, S, rfl, own.base hW.size⟩) (hW.no hk) hk hex⟩
                · have e168 : a'.eval (.tmp 168) = .bool true := hI.eval (k := 4) (by decide) (hall ⟨4, .guard⟩ (by simp) rfl)
                  refine .inl ⟨wanted_yes rfl (d := 168) rfl e168, ?_⟩
                  have e6 : a'.eval (.tmp 6) = .pointer (some ⟨X2, 0, none⟩) := hI.old (by decide)
                  exact wp_load_mid _ _ rfl X2 0 e6 s2 _ (rangeAt_kept k2 hW (fun e => e)) Try.underlying63 rfl sz2 (VS.step hI (d := 171) (by kernel_rfl) (by decide) rfl (hW.no (Kept.refl _ _)) (Kept.refl _ _) hex)
                · have e168 : a'.eval (.tmp 168) = .bool true := hI.eval (k := 4) (by decide) (hall ⟨4, .guard⟩ (by simp) rfl)
                  refine .inl ⟨wanted_yes rfl (d := 168) rfl e168, ?_⟩
                  have e170 := hI.eval (k := 6) (d := 170) (by decide) (hall ⟨6, .data⟩ (by simp) rfl)
                  have e171 : a'.eval (.tmp 171) = .agg s2.toArray := hI.eval (k := 7) (by decide) (hall ⟨7, .data⟩ (by simp) rfl)
                  obtain ⟨P, V, S, e170, own⟩ := e170
                  change a'.eval (.tmp 170) = _ at e170
                  refine wp_go Try.func33 rfl rfl (args := #[.agg (recC (coldR (made x)) P V S (.slice none 0 0)).toArray, .agg s2.toArray]) (by simp only [List.map_toArray, List.map_cons, List.map_nil, e170, e171]) ((hsame2 wz hW P V S (own.at COK.out)).mono ?_)
                  rintro e w' ⟨rfl, hk⟩
                  exact ⟨_, rfl, VS.step hI (d := 172) (by kernel_rfl) (by decide) rfl (hW.no hk) hk hex⟩
                · refine .inl ⟨wanted_free rfl, ?_⟩
                  have e168 : a'.eval (.tmp 168) = .bool true := hI.eval (k := 4) (by decide) (hall ⟨4, .data⟩ (by simp) rfl)
                  have e172 : a'.eval (.tmp 172) = .bool true := hI.eval (k := 8) (by decide) (hall ⟨8, .data⟩ (by simp) rfl)
                  refine wp_value (w' := wz) ?_ (VS.step hI (d := 173) (by kernel_rfl) (by decide) rfl (hW.no (Kept.refl _ _)) (Kept.refl _ _) hex)
                  (unfold execOp; simp only [List.map_toArray, List.map_cons, List.map_nil, e168, e172]; (try simp [go_sem, e168, e172]); try omega)
                · refine .inl ⟨wanted_free rfl, ?_⟩
                  have e173 : a'.eval (.tmp 173) = .bool true := hI.eval (k := 9) (by decide) (hall ⟨9, .data⟩ (by simp) rfl)
                  refine wp_value (w' := wz) ?_ (VS.step hI (d := 4) (by kernel_rfl) (by decide) rfl (hW.no (Kept.refl _ _)) (Kept.refl _ _) hex)
                  (unfold execOp; simp only [List.map_toArray, List.map_cons, List.map_nil, e173]; (try simp [go_sem, e173]); try omega)
              · intro f a' wz hf hI
                have e4 : a'.tmps.getD 4 undef = .bool true := hI.slot (10, 4) (by decide) (hf 10 (by decide))
                have kz := hkw9.no hI.world
                have ho := hI.out
                clear hI hf hsame1 hcold2 hsame2 k0 k1 k2 sz0 sz1 sz2 hex hkw9
                simp only [r24D, List.foldl_cons, List.foldl_nil, Act.put] at ho
                rw [e4] at ho
                generalize a'.tmps.getD 164 undef = y164 at *
                generalize a'.tmps.getD 165 undef = y165 at *
                generalize a'.tmps.getD 166 undef = y166 at *
                generalize a'.tmps.getD 167 undef = y167 at *
                generalize a'.tmps.getD 168 undef = y168 at *
                generalize a'.tmps.getD 169 undef = y169 at *
                generalize a'.tmps.getD 170 undef = y170 at *
                generalize a'.tmps.getD 171 undef = y171 at *
                generalize a'.tmps.getD 172 undef = y172 at *
                generalize a'.tmps.getD 173 undef = y173 at *
                simp only [List.setIfInBounds_toArray, List.set_cons_zero, List.set_cons_succ] at ho
                subst ho
                clear e4
                have KZ := Lib.hid kz
                clear kz
                go_wp2_with fail
                go_ret
                exact ⟨rfl, KZ.out⟩
end Go.Proofs.Ytngpfjmifaecjaa
