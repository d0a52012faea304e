/- The walk of ClassifyTells. Conditions: the numbers are of their kinds. -/
import Derived.Test.YtclnginkplhlhaaClassify4
import Derived.Test.YtclnginkplhlhaaQuietRow
namespace Go.Proofs.Ytclnginkplhlhaa
open Go.RowKit Go.Maps
/-- the VLANs that came in: where they lie -/
def VlAt (w : World) (A : Option Addr) (n : Nat) (p q : Nat → Nat) : Prop := n = 0 ∨ ∃ bb off, A = some ⟨bb, off, none⟩ ∧ ∀ k, k < n → w.cell? ⟨bb, off + k * 2, none⟩ = some (.int .u16 (p k)) ∧ w.cell? ⟨bb, off + k * 2 + 1, none⟩ = some (.int .u16 (q k)) ∧ p k < 65536 ∧ q k < 65536
theorem VlAt.kept {w w' : World} {A : Option Addr} {n : Nat} {p q : Nat → Nat} (h : VlAt w A n p q) (hk : Kept noB w w') : VlAt w' A n p q := by
  rcases h with h | ⟨bb, off, hA, h⟩
  · exact .inl h
  · exact .inr ⟨bb, off, hA, fun k hk' => ⟨hk.cell (h k hk').1 (fun e => e), hk.cell (h k hk').2.1 (fun e => e), (h k hk').2.2⟩⟩
theorem pSize : (Try.prog.info? 30).map (·.size) = some 3 := by kernel_rfl
attribute [local irreducible] Go.wpQuiet
set_option maxRecDepth 100000 in
set_option maxHeartbeats 20000000 in
theorem classifyTells_walk (pvid acc num : Int) (filt tg : Bool) (vid : Nat) (A : Option Addr) (n cap : Nat) (p q : Nat → Nat) (w : World) (hp0 : 0 ≤ pvid) (hp1 : pvid < 65536) (hv : vid < 65536) (hn : n ≤ maxLen) (hvl : VlAt w A n p q) :
    Calls Try.prog 3 #[.agg #[.int .u16 pvid, .int .i64 acc, .bool filt, .int .i64 num, .bool tg, .int .u16 vid, .slice A n cap]] w fun e w' => e = .returned (.bool true) ∧ Kept noB w w' := by
  have hn' : n ≤ 9223372036854775807 := by unfold maxLen at hn; exact hn
  have k0 : Kept noB w (w.alloc (.cells #[.int .u16 pvid, .int .i64 acc, .bool filt, .int .i64 num, .bool tg, .int .u16 vid, .slice A n cap] 25)) := (Kept.refl _ _).alloc _
  have b0 := Blk.new w 25 [.int .u16 pvid, .int .i64 acc, .bool filt, .int .i64 num, .bool tg, .int .u16 vid, .slice A n cap]
  have HK := Lib.hid k0
  have HB := Lib.hid b0
  clear k0 b0 hn
  go_enter Try.func3, Try.ntmps3
  go_wp2_with fail
  refine (speaks11 _).mono ?_
  rintro e w1 ⟨rfl, hk1⟩
  have k1 := HK.out.no hk1
  have b1 := HB.out.kept hk1 (fun e => e)
  have HK1 := Lib.hid k1
  have HB1 := Lib.hid b1
  clear HK HB hk1 k1 b1
  go_wp2_with fail
  refine (new_calls (Kept.refl noB w1)).mono ?_
  rintro e w2 ⟨g, rfl, T⟩
  have b2 := HB1.out.kept T.here (fun e => e)
  have c0 : w2.cell? ⟨w.heap.size, 0, none⟩ = some (.int .u16 pvid) := b2.cell 0
  have c1 : w2.cell? ⟨w.heap.size, 1, none⟩ = some (.int .i64 acc) := b2.cell 1
  have c2 : w2.cell? ⟨w.heap.size, 2, none⟩ = some (.bool filt) := b2.cell 2
  have P3 := Blk.new w2 30 [.int .u16 pvid, .int .i64 acc, .bool filt]
  have T3 := T.kept ((Kept.refl _ _).alloc (.cells #[.int .u16 pvid, .int .i64 acc, .bool filt] 30))
  have B3 := b2.alloc (.cells #[.int .u16 pvid, .int .i64 acc, .bool filt] 30)
  have hw2 : w1.heap.size ≤ w2.heap.size := T.here.size
  have HV := Lib.hid (hvl.kept HK1.out)
  have HP3 := Lib.hid P3
  have HT3 := Lib.hid T3
  have HB3 := Lib.hid B3
  have HB1l := HB1.out.lt
  clear T b2 P3 T3 B3 hvl HB1
  go_upto_block 0 with (fail)
  go_cut [5] (fun i wr => ∃ k : Nat, i = .int .i64 k ∧ k ≤ 16 ∧ (∃ D, Tbl w1 wr g k D) ∧ Blk wr w.heap.size 25 [.int .u16 pvid, .int .i64 acc, .bool filt, .int .i64 num, .bool tg, .int .u16 vid, .slice A n cap] ∧ Blk wr w2.heap.size 30 [.int .u16 pvid, .int .i64 acc, .bool filt])
  case first => as_aux_lemma =>
    go_wp2_with fail
    go_loopw [5] (fun i wr => ∃ k : Nat, k ≤ 16 ∧ k ≤ n ∧ i = .int .i64 k ∧ (∃ D, Tbl w1 wr g k D) ∧ Blk wr w.heap.size 25 [.int .u16 pvid, .int .i64 acc, .bool filt, .int .i64 num, .bool tg, .int .u16 vid, .slice A n cap] ∧ Blk wr w2.heap.size 30 [.int .u16 pvid, .int .i64 acc, .bool filt]) (fun i _ => 16 - (intOf i).toNat)
    case atStart => exact ⟨0, by omega, by omega, rfl, ⟨_, HT3.out⟩, HB3.out, HP3.out⟩
    case round =>
      clear HT3 HB3 HP3 c0 c1 c2
      obtain ⟨k, hk16, hkn, rfl, ⟨D, T⟩, B, PB⟩ := hrel
      have c6 : wr.cell? ⟨w.heap.size, 6, none⟩ = some (.slice A n cap) := B.cell 6
      by_cases hlt : k < n ∧ k < 16
      · obtain ⟨hlt1, hlt2⟩ := hlt
        have hlt1' : (k : Int) < (n : Int) := by omega
        have hlt2' : (k : Int) < 16 := by omega
        have HVr := HV.out.kept T.here
        obtain ⟨bb, off, rfl, hcell⟩ : ∃ bb off, A = some ⟨bb, off, none⟩ ∧ ∀ k, k < n → wr.cell? ⟨bb, off + k * 2, none⟩ = some (.int .u16 (p k)) ∧ wr.cell? ⟨bb, off + k * 2 + 1, none⟩ = some (.int .u16 (q k)) ∧ p k < 65536 ∧ q k < 65536 := by
          rcases HVr with h | h
          · omega
          · exact h
        obtain ⟨x0, x1, x2, x3⟩ := hcell k hlt1
        have x2' : ((p k : Nat) : Int) < 65536 := by omega
        have x3' : ((q k : Nat) : Int) < 65536 := by omega
        have hT := Lib.hid T
        have hB := Lib.hid B
        have hPB := Lib.hid PB
        clear T B PB hcell HVr
        generalize hpk : p k = pk at *
        generalize hqk : q k = qk at *
        clear hpk hqk
        go_wp2_with fail
        go_still_tail 15, (by kernel_rfl)
        go_wp2_with fail
        refine (set_calls (w0 := w1) (D := D) (n := k) (hT.out.kept (Kept.refl noB _).drew) pk qk (by omega) (by omega) (by omega) (by omega)).mono ?_
        rintro e w9 ⟨rfl, T9, BK⟩
        have B9 := BK _ _ _ hB.out.drew
        have P9 := BK _ _ _ hPB.out.drew
        go_wp2_with fail
        exact ⟨⟨k + 1, by omega, by omega, by go_num, ⟨_, T9⟩, B9, P9⟩, by simp [intOf]; omega⟩
      · clear HV
        rcases (show (n : Int) ≤ (k : Int) ∨ ((k : Int) < (n : Int) ∧ (16 : Int) ≤ (k : Int)) by omega) with hex | ⟨hex, hex2⟩
        · clear hlt
          go_wp2_with fail
          go_meet
          exact ⟨k, rfl, hk16, ⟨D, T⟩, B, PB⟩
        · clear hlt
          go_wp2_with fail
          go_meet
          exact ⟨k, rfl, hk16, ⟨D, T⟩, B, PB⟩
  case rest =>
    clear HT3 HB3 HP3 c0 c1 c2 HV
    rename World => wa
    obtain ⟨k, rfl, hk16, ⟨D, T⟩, B, PB⟩ := hcut
    have c0 : wa.cell? ⟨w.heap.size, 0, none⟩ = some (.int .u16 pvid) := B.cell 0
    have c1 : wa.cell? ⟨w.heap.size, 1, none⟩ = some (.int .i64 acc) := B.cell 1
    have HT := Lib.hid T
    have HB := Lib.hid B
    have HP := Lib.hid PB
    clear T B PB
    go_upto_region 9 with (fail)
    go_cut [72] (fun s wx => s = .bool false ∧ Kept noB wa wx)
    case first => as_aux_lemma =>
      have hrow : ∀ w', (∃ p : Regrown, w' = Sort.grow (redrawn wa p.d) p.os) → w'.heap[w2.heap.size]? = some (.cells #[.int .u16 pvid, .int .i64 acc, .bool filt] 30 (0, 0)) := by
        rintro _ ⟨p, rfl⟩
        exact HP.out.kept (Kept.regrown wa p.d p.os) (fun e => e)
      have qg := Calls.qkept (w := wa) (fun w1 _ => pgood_calls pvid acc filt w1)
      have k0 := cell_regrown c0
      have k1 := cell_regrown c1
      unfold pV at qg
      clear c0 c1 HT HB HP
      by_cases g1 : 1 ≤ pvid
      by_cases g2 : pvid ≤ 4094
      by_cases g3 : 0 ≤ acc
      by_cases g4 : acc ≤ 2
      · rw [show pGood pvid acc = true by simp [pGood, g1, g2, g3, g4]] at qg
        have d1 : decide (1 ≤ pvid) = true := by simp [g1]
        have d2 : decide (pvid ≤ 4094) = true := by simp [g2]
        have d3 : decide (0 ≤ acc) = true := by simp [g3]
        have d4 : decide (acc ≤ 2) = true := by simp [g4]
        refine wp_region_quiet_below (by kernel_rfl) (by kernel_rfl) ?_
        repeat (first | (refine wpQuiet_load_row rfl _ _ rfl w2.heap.size rfl _ _ _ _ hrow Try.underlying30 rfl pSize ?_) | quiet_step (with_reducible exact qg _ _))
        refine wpQuiet_nil ?_
        intro _ hw'
        obtain ⟨⟨dq, osq⟩, hw''⟩ := hw'
        subst hw''
        go_wp2_with fail
        go_meet
        exact ⟨rfl, Kept.regrown wa dq osq⟩
      · rw [show pGood pvid acc = false by simp [pGood, g4]] at qg
        have d1 : decide (1 ≤ pvid) = true := by simp [g1]
        have d2 : decide (pvid ≤ 4094) = true := by simp [g2]
        have d3 : decide (0 ≤ acc) = true := by simp [g3]
        have d4 : decide (acc ≤ 2) = false := by simp; omega
        clear g4
        refine wp_region_quiet_below (by kernel_rfl) (by kernel_rfl) ?_
        repeat (first | (refine wpQuiet_load_row rfl _ _ rfl w2.heap.size rfl _ _ _ _ hrow Try.underlying30 rfl pSize ?_) | quiet_step (with_reducible exact qg _ _))
        refine wpQuiet_nil ?_
        intro _ hw'
        obtain ⟨⟨dq, osq⟩, hw''⟩ := hw'
        subst hw''
        go_wp2_with fail
        go_meet
        exact ⟨rfl, Kept.regrown wa dq osq⟩
      · rw [show pGood pvid acc = false by simp [pGood, g3]] at qg
        have d1 : decide (1 ≤ pvid) = true := by simp [g1]
        have d2 : decide (pvid ≤ 4094) = true := by simp [g2]
        have d3 : decide (0 ≤ acc) = false := by simp; omega
        clear g3
        refine wp_region_quiet_below (by kernel_rfl) (by kernel_rfl) ?_
        repeat (first | (refine wpQuiet_load_row rfl _ _ rfl w2.heap.size rfl _ _ _ _ hrow Try.underlying30 rfl pSize ?_) | quiet_step (with_reducible exact qg _ _))
        refine wpQuiet_nil ?_
        intro _ hw'
        obtain ⟨⟨dq, osq⟩, hw''⟩ := hw'
        subst hw''
        go_wp2_with fail
        go_meet
        exact ⟨rfl, Kept.regrown wa dq osq⟩
      · rw [show pGood pvid acc = false by simp [pGood, g2]] at qg
        have d1 : decide (1 ≤ pvid) = true := by simp [g1]
        have d2 : decide (pvid ≤ 4094) = false := by simp; omega
        clear g2
        refine wp_region_quiet_below (by kernel_rfl) (by kernel_rfl) ?_
        repeat (first | (refine wpQuiet_load_row rfl _ _ rfl w2.heap.size rfl _ _ _ _ hrow Try.underlying30 rfl pSize ?_) | quiet_step (with_reducible exact qg _ _))
        refine wpQuiet_nil ?_
        intro _ hw'
        obtain ⟨⟨dq, osq⟩, hw''⟩ := hw'
        subst hw''
        go_wp2_with fail
        go_meet
        exact ⟨rfl, Kept.regrown wa dq osq⟩
      · rw [show pGood pvid acc = false by simp [pGood, g1]] at qg
        have d1 : decide (1 ≤ pvid) = false := by simp; omega
        clear g1
        refine wp_region_quiet_below (by kernel_rfl) (by kernel_rfl) ?_
        repeat (first | (refine wpQuiet_load_row rfl _ _ rfl w2.heap.size rfl _ _ _ _ hrow Try.underlying30 rfl pSize ?_) | quiet_step (with_reducible exact qg _ _))
        refine wpQuiet_nil ?_
        intro _ hw'
        obtain ⟨⟨dq, osq⟩, hw''⟩ := hw'
        subst hw''
        go_wp2_with fail
        go_meet
        exact ⟨rfl, Kept.regrown wa dq osq⟩
    case rest =>
      rename World => wb
      obtain ⟨rfl, hkc⟩ := hcut
      have T := HT.out.kept hkc
      have B := HB.out.kept hkc (fun e => e)
      have PB := HP.out.kept hkc (fun e => e)
      have c0 : wb.cell? ⟨w.heap.size, 0, none⟩ = some (.int .u16 pvid) := B.cell 0
      have c1 : wb.cell? ⟨w.heap.size, 1, none⟩ = some (.int .i64 acc) := B.cell 1
      have c2 : wb.cell? ⟨w.heap.size, 2, none⟩ = some (.bool filt) := B.cell 2
      have c3 : wb.cell? ⟨w.heap.size, 3, none⟩ = some (.int .i64 num) := B.cell 3
      have c4 : wb.cell? ⟨w.heap.size, 4, none⟩ = some (.bool tg) := B.cell 4
      have c5 : wb.cell? ⟨w.heap.size, 5, none⟩ = some (.int .u16 vid) := B.cell 5
      clear HT HB HP hkc
      have HT := Lib.hid T
      have HB := Lib.hid B
      have HP := Lib.hid PB
      clear T B PB
      go_upto_region 11 with (fail)
      go_cut [6] (fun s wx => s = .bool (ownB tg vid) ∧ wx = wb)
      case first => as_aux_lemma =>
        clear HT HB HP
        cases tg
        · skip
          go_wp2_with fail
          go_meet
          exact ⟨rfl, rfl⟩
        · by_cases hv0 : vid = 0
          · subst hv0
            go_wp2_with fail
            go_meet
            exact ⟨rfl, rfl⟩
          · have hv1 : ((vid : Int) != 0) = true := by rw [bne_iff_ne]; omega
            have e1 : ownB true vid = true := by simp [ownB, hv0]
            have E1 := Lib.hid e1
            clear e1 hv0
            go_wp2_with fail
            go_meet
            exact ⟨by rw [E1.out], rfl⟩
      case rest => as_aux_lemma =>
        obtain ⟨rfl, hwc⟩ := hcut
        subst wc
        obtain ⟨own, hown⟩ : ∃ own, own = ownB tg vid := ⟨_, rfl⟩
        obtain ⟨vd, hvd⟩ : ∃ vd, vd = ingV pvid tg vid := ⟨_, rfl⟩
        have hvd2 : vd = if own then (vid : Int) else pvid := by rw [hvd, hown]; rfl
        have hvb : 0 ≤ vd ∧ vd < 65536 := by rw [hvd2]; split <;> omega
        rw [← hown]
        have HOWN := Lib.hid hown
        have HVD := Lib.hid hvd
        clear hown hvd
        go_upto_if 82 with (fail)
        go_cut [7] (fun s wx => s = .int .u16 vd ∧ wx = wb)
        case first => as_aux_lemma =>
          clear HT HB HP
          cases own
          · have hvd3 : vd = pvid := hvd2
            subst hvd3
            clear hvd2
            go_wp2_with fail
            go_meet
            exact ⟨rfl, rfl⟩
          · have hvd3 : vd = (vid : Int) := hvd2
            subst hvd3
            clear hvd2
            go_wp2_with fail
            go_meet
            exact ⟨rfl, rfl⟩
        case rest => as_aux_lemma =>
          obtain ⟨rfl, hwc⟩ := hcut
          subst wc
          have hok := getN_ok HT.out hvb.1 hvb.2
          have hmem : (getN D vd).2.1 = ((memN D vd : Nat) : Int) := by rw [memN, Int.toNat_of_nonneg hok.2.2.1]
          have hml : memN D vd < 4294967296 := by have := hok.2.2.2.1; rw [hmem] at this; omega
          have qg := fun (w5 : World) (h5 : Tbl w1 w5 g k D) => get_calls h5 vd hvb.1 hvb.2
          rw [hmem] at qg
          have qi := fun (w5 : World) (h5 : Tbl w1 w5 g k D) => ingress_tbl h5 pvid acc filt num (frT tg vid) hp0 hp1 hv
          have qn := fun (w5 : World) => ingress_nil pvid acc filt num ⟨0, 0, 0, 0, 0, 0, 0, 0, 0, 0, 0, 0, tg, 0, false, vid, 3, [120]⟩ w5
          have ei1 : ingV pvid (frT tg vid).tg (frT tg vid).vid = vd := by rw [HVD.out]; rfl
          have ei2 : ownB (frT tg vid).tg (frT tg vid).vid = own := by rw [HOWN.out]; rfl
          rw [ei1, ei2] at qi
          have en1 : ingV pvid (Fr.mk 0 0 0 0 0 0 0 0 0 0 0 0 tg 0 false vid 3 [120]).tg (Fr.mk 0 0 0 0 0 0 0 0 0 0 0 0 tg 0 false vid 3 [120]).vid = vd := by rw [HVD.out]
          have en2 : ownB (Fr.mk 0 0 0 0 0 0 0 0 0 0 0 0 tg 0 false vid 3 [120]).tg (Fr.mk 0 0 0 0 0 0 0 0 0 0 0 0 tg 0 false vid 3 [120]).vid = own := by rw [HOWN.out]
          rw [en1, en2] at qn
          have qh := fun w => has_calls (memN D vd) num w hml
          clear ei1 ei2 en1 en2 hok hmem HOWN HVD
          generalize memN D vd = mem at *
          generalize (getN D vd).1 = v0 at *
          generalize (getN D vd).2.2 = v2 at *
          generalize getB D vd = ok at *
          have QG := Lib.hid qg
          have QI := Lib.hid qi
          have QN := Lib.hid qn
          have QH := Lib.hid qh
          clear qg qi qn qh hvd2
          unfold vlanV at QG
          go_wp2_with fail
          refine (QG.out _ HT.out).mono ?_
          rintro e w5 ⟨rfl, hk5⟩
          have T5 := (HT.out.kept hk5).kept ((Kept.refl _ _).alloc (.cells #[.int .u16 v0, .int .u32 mem, .int .u32 v2] 37))
          have B5 := (HB.out.kept hk5 (fun e => e)).alloc (.cells #[.int .u16 v0, .int .u32 mem, .int .u32 v2] 37)
          have P5 := (HP.out.kept hk5 (fun e => e)).alloc (.cells #[.int .u16 v0, .int .u32 mem, .int .u32 v2] 37)
          have V5 := Blk.new w5 37 [.int .u16 v0, .int .u32 mem, .int .u32 v2]
          have H5 := Lib.hid (And.intro T5 (And.intro B5 (And.intro P5 V5)))
          clear T5 B5 P5 V5 hk5 HT HB HP c0 c1 c2 c3 c4 c5
          go_upto_region 17 with (fail)
          have hv5 : ∃ vb, vb = w5.heap.size := ⟨_, rfl⟩
          obtain ⟨vb, hvb5⟩ := hv5
          rw [← hvb5]
          change Code.wp _ _ _ _ (w5.alloc (.cells #[.int .u16 v0, .int .u32 mem, .int .u32 v2] 37))
          have H := H5.out
          rw [← hvb5] at H
          clear H5 hvb5
          generalize w5.alloc (.cells #[.int .u16 v0, .int .u32 mem, .int .u32 v2] 37) = wd at *
          obtain ⟨T, B, PB, V⟩ := H
          have c0 : wd.cell? ⟨w.heap.size, 0, none⟩ = some (.int .u16 pvid) := B.cell 0
          have c1 : wd.cell? ⟨w.heap.size, 1, none⟩ = some (.int .i64 acc) := B.cell 1
          have c2 : wd.cell? ⟨w.heap.size, 2, none⟩ = some (.bool filt) := B.cell 2
          have c3 : wd.cell? ⟨w.heap.size, 3, none⟩ = some (.int .i64 num) := B.cell 3
          have c4 : wd.cell? ⟨w.heap.size, 4, none⟩ = some (.bool tg) := B.cell 4
          have c5 : wd.cell? ⟨w.heap.size, 5, none⟩ = some (.int .u16 vid) := B.cell 5
          have d1 : wd.cell? ⟨vb, 1, none⟩ = some (.int .u32 mem) := V.cell 1
          have HT := Lib.hid T
          have HB := Lib.hid B
          have HP := Lib.hid PB
          clear T B PB V
          go_cut [100] (fun s wx => s = .bool (filt && !hasB mem num) ∧ wx = wd)
          case first => as_aux_lemma =>
            cases filt
            · go_wp2_with fail
              go_meet
              exact ⟨rfl, rfl⟩
            · go_wp2_with fail
              refine (QH.out _).mono ?_
              rintro e w' ⟨rfl, rfl⟩
              go_wp2_with fail
              go_meet
              exact ⟨rfl, rfl⟩
          case rest => as_aux_lemma =>
          obtain ⟨rfl, hwc⟩ := hcut
          subst wc
          obtain ⟨fh, hfh⟩ : ∃ fh, fh = (filt && !hasB mem num) := ⟨_, rfl⟩
          rw [← hfh]
          have HFH := Lib.hid hfh
          clear hfh
          go_upto_if 100 with (fail)
          go_cut [10] (fun s wx => s = .int .i64 (if fh then 3 else 0) ∧ wx = wd)
          case first => as_aux_lemma =>
            cases fh
            · go_wp2_with fail
              go_meet
              exact ⟨rfl, rfl⟩
            · go_wp2_with fail
              go_meet
              exact ⟨rfl, rfl⟩
          case rest => as_aux_lemma =>
          obtain ⟨rfl, hwc⟩ := hcut
          subst wc
          obtain ⟨x1, hx1⟩ : ∃ x1 : Int, x1 = (if fh then 3 else 0) := ⟨_, rfl⟩
          rw [← hx1]
          have HX1 := Lib.hid hx1
          clear hx1
          go_upto_if 102 with (fail)
          go_cut [10] (fun s wx => s = .int .i64 (if ok then x1 else 2) ∧ wx = wd)
          case first => as_aux_lemma =>
            cases ok
            · go_wp2_with fail
              go_meet
              exact ⟨rfl, rfl⟩
            · go_wp2_with fail
              go_meet
              exact ⟨rfl, rfl⟩
          case rest => as_aux_lemma =>
          obtain ⟨rfl, hwc⟩ := hcut
          subst wc
          obtain ⟨x2, hx2⟩ : ∃ x2 : Int, x2 = (if ok then x1 else 2) := ⟨_, rfl⟩
          rw [← hx2]
          have HX2 := Lib.hid hx2
          clear hx2
          go_upto_region 21 with (fail)
          go_cut [117] (fun s wx => s = .bool (refB acc own) ∧ wx = wd)
          case first => as_aux_lemma =>
            cases own
            · by_cases ha : acc = 1
              · subst ha
                go_wp2_with fail
                go_meet
                exact ⟨rfl, rfl⟩
              · have ha1 : (acc == 1) = false := by rw [beq_eq_false_iff_ne]; exact ha
                have ha2 : refB acc false = false := by simp [refB, ha]
                have HA2 := Lib.hid ha2
                clear ha ha2
                go_wp2_with fail
                go_meet
                exact ⟨by rw [HA2.out], rfl⟩
            · by_cases ha : acc = 2
              · subst ha
                go_wp2_with fail
                go_meet
                exact ⟨rfl, rfl⟩
              · have ha1 : (acc == 2) = false := by rw [beq_eq_false_iff_ne]; exact ha
                have ha2 : refB acc true = false := by simp [refB, ha]
                have HA2 := Lib.hid ha2
                clear ha ha2
                go_wp2_with fail
                go_meet
                exact ⟨by rw [HA2.out], rfl⟩
          case rest => as_aux_lemma =>
          obtain ⟨rfl, hwc⟩ := hcut
          subst wc
          obtain ⟨rb, hrb⟩ : ∃ rb, rb = refB acc own := ⟨_, rfl⟩
          rw [← hrb]
          have HRB := Lib.hid hrb
          clear hrb
          go_upto_if 117 with (fail)
          go_cut [10] (fun s wx => s = .int .i64 (if rb then 1 else x2) ∧ wx = wd)
          case first => as_aux_lemma =>
            cases rb
            · go_wp2_with fail
              go_meet
              exact ⟨rfl, rfl⟩
            · go_wp2_with fail
              go_meet
              exact ⟨rfl, rfl⟩
          case rest => as_aux_lemma =>
          obtain ⟨rfl, hwc⟩ := hcut
          subst wc
          have hC : ingC mem ok acc filt num own = if rb then 1 else x2 := by
            rw [ingC, HRB.out, HX2.out, HX1.out, HFH.out]
            cases ok <;> rfl
          have hN0 : ingC 0 false acc filt num own = if rb then 1 else 2 := by
            rw [ingC, HRB.out]
            rfl
          have qi := QI.out
          have qn := QN.out
          rw [hC] at qi
          rw [hN0] at qn
          obtain ⟨C, hCC⟩ : ∃ C : Int, C = (if rb then 1 else x2) := ⟨_, rfl⟩
          rw [← hCC] at qi ⊢
          have QI2 := Lib.hid qi
          have QN2 := Lib.hid qn
          have HCC := Lib.hid hCC
          clear qi qn QI QN hC hN0 hCC HX1 HX2 HFH QG QH d1
          go_upto_if 119 with (fail)
          go_cut [7] (fun s wx => s = .int .u16 (ingA C vd) ∧ wx = wd)
          case first => as_aux_lemma =>
            by_cases h0 : C = 0
            · subst h0
              go_wp2_with fail
              go_meet
              exact ⟨rfl, rfl⟩
            · have h1 : (C != 0) = true := by rw [bne_iff_ne]; exact h0
              have h2 : ingA C vd = 0 := by rw [ingA, if_neg h0]
              have H2 := Lib.hid h2
              clear h0 h2
              go_wp2_with fail
              go_meet
              exact ⟨by rw [H2.out], rfl⟩
          case rest => as_aux_lemma =>
          obtain ⟨rfl, hwc⟩ := hcut
          subst wc
          have c0 : wd.cell? ⟨w.heap.size, 0, none⟩ = some (.int .u16 pvid) := HB.out.cell 0
          have e0 : wd.cell? ⟨w2.heap.size, 0, none⟩ = some (.int .u16 pvid) := HP.out.cell 0
          have e1 : wd.cell? ⟨w2.heap.size, 1, none⟩ = some (.int .i64 acc) := HP.out.cell 1
          have e2 : wd.cell? ⟨w2.heap.size, 2, none⟩ = some (.bool filt) := HP.out.cell 2
          go_wp2_with fail
          refine (QI2.out _ HT.out).mono ?_
          rintro e w6 ⟨rfl, hk6⟩
          have T := HT.out.kept hk6
          have B := HB.out.kept hk6 (fun e => e)
          have PB := HP.out.kept hk6 (fun e => e)
          clear HT HB HP QI2 hk6 c0 c1 c2 c3 c4 c5 e0 e1 e2
          have c3 : w6.cell? ⟨w.heap.size, 3, none⟩ = some (.int .i64 num) := B.cell 3
          have c4 : w6.cell? ⟨w.heap.size, 4, none⟩ = some (.bool tg) := B.cell 4
          have c5 : w6.cell? ⟨w.heap.size, 5, none⟩ = some (.int .u16 vid) := B.cell 5
          have e0 : w6.cell? ⟨w2.heap.size, 0, none⟩ = some (.int .u16 pvid) := PB.cell 0
          have e1 : w6.cell? ⟨w2.heap.size, 1, none⟩ = some (.int .i64 acc) := PB.cell 1
          have e2 : w6.cell? ⟨w2.heap.size, 2, none⟩ = some (.bool filt) := PB.cell 2
          have K6 := Lib.hid (HK1.out.no T.here)
          clear T B PB
          go_wp2_with fail
          refine (QN2.out _).mono ?_
          rintro e w7 ⟨rfl, hk7⟩
          have K7 := K6.out.no hk7
          clear QN2 hk7 K6 c3 c4 c5 e0 e1 e2
          cases rb
          · have hz : ingA (if false = true then 1 else 2) vd = 0 := rfl
            have hy : (if false = true then (1 : Int) else 2) = 2 := rfl
            clear HCC HRB
            go_wp2_with fail
            go_ret
            exact ⟨rfl, K7⟩
          · have hCv : C = 1 := HCC.out
            subst hCv
            have hz : ingA (if true = true then 1 else 2) vd = 0 := rfl
            have hz1 : ingA 1 vd = 0 := rfl
            have hy : (if true = true then (1 : Int) else 2) = 1 := rfl
            clear HCC HRB
            go_wp2_with fail
            go_ret
            exact ⟨rfl, K7⟩
end Go.Proofs.Ytclnginkplhlhaa
