/- The walk of frame.Decode. Condition: the text's length. -/
import Derived.Test.YtclnginkplhlhaaFrame7
import Derived.Test.YtclnginkplhlhaaPlainBack
namespace Go.Proofs.Ytclnginkplhlhaa
open Go.RowKit
def decD : List (Nat × Nat) := [(0, 19), (1, 20), (2, 21), (3, 22), (4, 23), (5, 24), (6, 25), (7, 26), (8, 27), (9, 28), (10, 29), (11, 5)]
theorem raw_step {w0 w : World} {g : Nat} (A R : List UInt8) (h : RdS w0 w g (A ++ R) false) (n : Int) (hn : n = A.length) : Calls Try.prog 42 #[.pointer (some ⟨g, 0, none⟩), .int .i64 n] w fun e w' => e = .returned (.string (bs A)) ∧ RdS w0 w' g R false ∧ Kept (oneB g) w w' := by
  refine (raw_calls g (A ++ R) false n w h.1 h.2.2.2).mono ?_
  rintro e w' ⟨rfl, hr, hk⟩
  obtain ⟨e1, e2, e3⟩ := raw_pre A R n hn
  rw [e1, e3] at hr
  rw [e2]
  exact ⟨rfl, h.turned hr hk (by simp), hk⟩
theorem RdS.alloc {w0 w : World} {g : Nat} {l : List UInt8} {b : Bool} (h : RdS w0 w g l b) (o : Obj) : RdS w0 (w.alloc o) g l b := h.kept ((Kept.refl _ _).alloc o)
theorem num_step2 {w0 w : World} {g : Nat} (A R : List UInt8) (h : RdS w0 w g (A ++ R) false) (n : Int) (hn : n = A.length) (h1 : 1 ≤ n) (h8 : n ≤ 8) : Calls Try.prog 43 #[.pointer (some ⟨g, 0, none⟩), .int .i64 n] w fun e w' => e = .returned (.int .u64 ((numU A : Nat) : Int)) ∧ RdS w0 w' g R false ∧ Kept (oneB g) w w' := by
  refine (num_calls g (A ++ R) false n w h.1 h.2.2.2).mono ?_
  rintro e w' ⟨rfl, hr, hk⟩
  rw [numSize_in n ⟨h1, h8⟩] at hr ⊢
  obtain ⟨e1, e2, e3⟩ := raw_pre A R n hn
  rw [e1, e3] at hr
  rw [e2]
  exact ⟨rfl, h.turned hr hk (by simp), hk⟩
theorem RdS.far {w0 w : World} {g : Nat} {l : List UInt8} {b : Bool} (h : RdS w0 w g l b) {p : Addr} (hp : w0.heap.size ≤ p.block) (hne : g ≠ p.block) (u : Value) : RdS w0 (w.setCell p u) g l b :=
  ⟨h.1.far hne u, h.2.1.setCell (fun h => by omega) u, h.2.2⟩
set_option maxRecDepth 100000 in
set_option maxHeartbeats 1000000 in
theorem decode_on (a0 a1 a2 a3 a4 a5 b0 b1 b2 b3 b4 b5 : UInt8) (rs : List UInt8) (w : World) (hl1 : 2 ≤ rs.length) (hl : rs.length ≤ 1506) :
    Calls Try.prog 21 #[.string (bs ([a0, a1, a2, a3, a4, a5] ++ ([b0, b1, b2, b3, b4, b5] ++ rs)))] w fun e w' => e = .returned (.tuple #[frV (decF ([a0, a1, a2, a3, a4, a5] ++ ([b0, b1, b2, b3, b4, b5] ++ rs))), .int .i64 (decE ([a0, a1, a2, a3, a4, a5] ++ ([b0, b1, b2, b3, b4, b5] ++ rs)) : Nat)]) ∧ Kept noB w w' := by
  have hx : frC (frHalf a0 a1 a2 a3 a4 a5 b0 b1 b2 b3 b4 b5) = frC (frHalf a0 a1 a2 a3 a4 a5 b0 b1 b2 b3 b4 b5) := rfl
  have hbuild := run_build2 a0 a1 a2 a3 a4 a5 b0 b1 b2 b3 b4 b5
  have hz1 : ¬ 1518 < (bs ([a0, a1, a2, a3, a4, a5] ++ ([b0, b1, b2, b3, b4, b5] ++ rs))).size := by rw [bs_size]; simp; omega
  have hz : 14 ≤ (bs ([a0, a1, a2, a3, a4, a5] ++ ([b0, b1, b2, b3, b4, b5] ++ rs))).size := by rw [bs_size]; simp; omega
  have hll : ([a0, a1, a2, a3, a4, a5] ++ ([b0, b1, b2, b3, b4, b5] ++ rs)).length ≤ 140737488351232 := by simp; omega
  have hA : [a0, a1, a2, a3, a4, a5].length = 6 := rfl
  have hB : [b0, b1, b2, b3, b4, b5].length = 6 := rfl
  generalize hAe : [a0, a1, a2, a3, a4, a5] = A at *
  generalize hBe : [b0, b1, b2, b3, b4, b5] = B at *
  have HAE := Lib.hid hAe
  have HBE := Lib.hid hBe
  generalize hhalf : frHalf a0 a1 a2 a3 a4 a5 b0 b1 b2 b3 b4 b5 = half at *
  have HH := Lib.hid hhalf
  generalize hL : A ++ (B ++ rs) = l at *
  have HB := Lib.hid hbuild
  have HA := Lib.hid hA
  have HB6 := Lib.hid hB
  have HL := Lib.hid hL
  clear hbuild hx hA hB hL hhalf hAe hBe
  have k0 : Kept noB w (w.alloc (.cells (frC Fr.zero).toArray 46)) := (Kept.refl _ _).alloc _
  have r0 : Blk (w.alloc (.cells (frC Fr.zero).toArray 46)) w.heap.size 46 (frC Fr.zero) := Blk.new _ _ _
  have hza' := run_allocF
  generalize hzc : (frC Fr.zero).toArray = zc at *
  go_enter Try.func21, Try.ntmps21
  go_wp2_with fail
  have K0 : Kept noB w _ := k0
  subst hzc
  refine (read_calls l _).mono ?_
  rintro e w1 ⟨rfl, hr, hk⟩
  have r1 := r0.kept hk (fun e => e)
  have hrs : RdS w w1 (w.alloc (.cells (frC Fr.zero).toArray 46)).heap.size l false := ⟨hr, k0.no hk, k0.size, hll⟩
  have hgn : (w.alloc (.cells (frC Fr.zero).toArray 46)).heap.size = w.heap.size + 1 := by simp
  have hH : (w.alloc (.cells (frC Fr.zero).toArray 46)).heap.size ≤ w1.heap.size := hk.size
  rw [hgn] at hrs hH
  have R1 := Lib.hid r1
  have HRS := Lib.hid hrs
  clear r0 hr hk hgn k0 r1 hrs K0
  go_wp2_with fail
  have hrs := HRS.out
  rw [← HL.out] at hrs
  have hr0 := R1.out
  have hA := HA.out
  have hB := HB6.out
  have hbu := HB.out
  have hn : w.heap.size ≠ w.heap.size + 1 := by omega
  clear HB HA HB6 R1 HRS
  refine wp_region_inv (by kernel_rfl) (by kernel_rfl) (Slots _ decD (decS (w.heap.size + 1) (w.heap.size + 1) A B half) (decW w (w.heap.size + 1) w.heap.size A B rs)) (Slots.start ⟨hrs.drew, hr0, fun h => h, fun h => h⟩) ?_ ?_
  · clear hrs hr0
    intro f a wz hI i o ho hfi hall
    have hi : i < 13 := (Array.getElem?_eq_some_iff.1 ho).1
    have hW := hI.world
    have hrlt : w.heap.size + 1 < wz.heap.size := hW.1.1.lt
    have n1 : ∀ w', Kept noB wz w' → Kept (oneB (w.heap.size + 1)) wz w' := fun w' h => h.mono (fun _ _ e => e.elim)
    rcases (by omega : i = 0 ∨ i = 1 ∨ i = 2 ∨ i = 3 ∨ i = 4 ∨ i = 5 ∨ i = 6 ∨ i = 7 ∨ i = 8 ∨ i = 9 ∨ i = 10 ∨ i = 11 ∨ i = 12) with rfl | rfl | rfl | rfl | rfl | rfl | rfl | rfl | rfl | rfl | rfl | rfl | rfl
    all_goals
      simp only [List.getElem?_toArray, List.getElem?_cons_zero, List.getElem?_cons_succ, Option.some.injEq] at ho
      subst ho
      simp [Region.binds] at hall
    · have e : a.eval (.tmp 4) = .pointer (some ⟨w.heap.size + 1, 0, none⟩) := hI.old (by decide)
      exact wp_value rfl (hI.put (d := 19) (by kernel_rfl) (by decide) (decW_kept (by decide) (by decide) (by decide) hW (Kept.refl _ _)) e (fun p _ _ _ h => decS_kept (by decide) (Kept.refl _ _) _ _ h))
    · have e : a.eval (.tmp 19) = .pointer (some ⟨w.heap.size + 1, 0, none⟩) := hI.eval (k := 0) (by decide) hall
      have f6 : f 6 = false := by
        cases h6 : f 6
        · rfl
        · have := hW.2.2.1 h6
          rw [hfi] at this
          cases this
      have hR := hW.1
      rw [f6, hfi] at hR
      refine wp_go Try.func42 rfl rfl (args := #[.pointer (some ⟨w.heap.size + 1, 0, none⟩), .int .i64 6]) (by simp only [List.map_toArray, List.map_cons, List.map_nil, e]; rfl) ((raw_step A (B ++ rs) hR 6 (by rw [hA]; rfl)).mono ?_)
      rintro e w' ⟨rfl, hr', hk⟩
      refine ⟨_, rfl, hI.put (d := 20) (by kernel_rfl) (by decide) ⟨?_, hW.2.1.kept hk hn, ?_, hW.2.2.2⟩ rfl (fun p _ _ _ h => decS_kept (by decide) hk _ _ h)⟩
      · simpa [f6] using hr'
      · simp
    · have e : a.eval (.tmp 20) = .string (bs A) := hI.eval (k := 1) (by decide) hall
      obtain ⟨c, w', hrun, hb, hk⟩ := run_bytes_of A wz
      rw [← e, bs_size, hA] at hrun
      refine wp_value (run_val hrun) (hI.put (d := 21) (by kernel_rfl) (by decide) (decW_kept (by decide) (by decide) (by decide) hW hk) (fun _ => ⟨_, c, rfl, hb, by omega, by omega⟩) (fun p _ _ _ h => decS_kept (by decide) (n1 _ hk) _ _ h))
    · obtain ⟨g, c, e, hb, hg, hgr⟩ := hI.eval (k := 2) (d := 21) (by decide) hall hfi
      have hrun := run_arrayAt ⟨g, 0, none⟩ c wz
      rw [← e] at hrun
      refine wp_value (run_val hrun) (hI.put (d := 22) (by kernel_rfl) (by decide) (decW_kept (by decide) (by decide) (by decide) hW (Kept.refl _ _)) (fun _ => ⟨g, rfl, hb, hg, hgr⟩) (fun p _ _ _ h => decS_kept (by decide) (Kept.refl _ _) _ _ h))
    · obtain ⟨g, e, hb, hg, hgr⟩ := hI.eval (k := 3) (d := 22) (by decide) hall hfi
      exact wp_load_mid _ _ rfl g 0 e (vb A) _ (range_of_byB hb) Try.underlying44 rfl (size_agg6 A hA) (hI.put (d := 23) (by kernel_rfl) (by decide) (decW_kept (by decide) (by decide) (by decide) hW (Kept.refl _ _)) rfl (fun p _ _ _ h => decS_kept (by decide) (Kept.refl _ _) _ _ h))
    · have e : a.eval (.tmp 4) = .pointer (some ⟨w.heap.size + 1, 0, none⟩) := hI.old (by decide)
      exact wp_value rfl (hI.put (d := 24) (by kernel_rfl) (by decide) (decW_kept (by decide) (by decide) (by decide) hW (Kept.refl _ _)) e (fun p _ _ _ h => decS_kept (by decide) (Kept.refl _ _) _ _ h))
    · have e : a.eval (.tmp 24) = .pointer (some ⟨w.heap.size + 1, 0, none⟩) := hI.eval (k := 5) (by decide) hall.1
      have hR := hW.1
      rw [hfi, hall.2] at hR
      refine wp_go Try.func42 rfl rfl (args := #[.pointer (some ⟨w.heap.size + 1, 0, none⟩), .int .i64 6]) (by simp only [List.map_toArray, List.map_cons, List.map_nil, e]; rfl) ((raw_step B rs hR 6 (by rw [hB]; rfl)).mono ?_)
      rintro e w' ⟨rfl, hr', hk⟩
      refine ⟨_, rfl, hI.put (d := 25) (by kernel_rfl) (by decide) ⟨?_, hW.2.1.kept hk hn, ?_, hW.2.2.2⟩ rfl (fun p _ _ _ h => decS_kept (by decide) hk _ _ h)⟩
      · simpa using hr'
      · simp [hall.2]
    · have e : a.eval (.tmp 25) = .string (bs B) := hI.eval (k := 6) (by decide) hall
      obtain ⟨c, w', hrun, hb, hk⟩ := run_bytes_of B wz
      rw [← e, bs_size, hB] at hrun
      refine wp_value (run_val hrun) (hI.put (d := 26) (by kernel_rfl) (by decide) (decW_kept (by decide) (by decide) (by decide) hW hk) (fun _ => ⟨_, c, rfl, hb, by omega, by omega⟩) (fun p _ _ _ h => decS_kept (by decide) (n1 _ hk) _ _ h))
    · obtain ⟨g, c, e, hb, hg, hgr⟩ := hI.eval (k := 7) (d := 26) (by decide) hall hfi
      have hrun := run_arrayAt ⟨g, 0, none⟩ c wz
      rw [← e] at hrun
      refine wp_value (run_val hrun) (hI.put (d := 27) (by kernel_rfl) (by decide) (decW_kept (by decide) (by decide) (by decide) hW (Kept.refl _ _)) (fun _ => ⟨g, rfl, hb, hg, hgr⟩) (fun p _ _ _ h => decS_kept (by decide) (Kept.refl _ _) _ _ h))
    · obtain ⟨g, e, hb, hg, hgr⟩ := hI.eval (k := 8) (d := 27) (by decide) hall hfi
      exact wp_load_mid _ _ rfl g 0 e (vb B) _ (range_of_byB hb) Try.underlying44 rfl (size_agg6 B hB) (hI.put (d := 28) (by kernel_rfl) (by decide) (decW_kept (by decide) (by decide) (by decide) hW (Kept.refl _ _)) rfl (fun p _ _ _ h => decS_kept (by decide) (Kept.refl _ _) _ _ h))
    · have e1 : a.eval (.tmp 23) = .agg (vb A).toArray := hI.eval (k := 4) (by decide) hall.1
      have e2 : a.eval (.tmp 28) = .agg (vb B).toArray := hI.eval (k := 9) (by decide) hall.2
      have hrun := hbu wz
      rw [← e1, ← e2] at hrun
      exact wp_value (v := .agg (frC half).toArray) (w' := wz) (run_val (by simp only [List.map_toArray, List.map_cons, List.map_nil]; exact hrun)) (hI.put (d := 29) (by kernel_rfl) (by decide) (decW_kept (by decide) (by decide) (by decide) hW (Kept.refl _ _)) rfl (fun p _ _ _ h => decS_kept (by decide) (Kept.refl _ _) _ _ h))
    · have f12 : f 12 = false := by
        cases h6 : f 12
        · rfl
        · have := hW.2.2.2 h6
          rw [hfi] at this
          cases this
      have hk : Kept noB wz (wz.alloc (.cells (frC Fr.zero).toArray 46)) := (Kept.refl _ _).alloc _
      refine wp_value (run_val (hza' wz)) (hI.put (d := 5) (by kernel_rfl) (by decide) (decW_kept (by decide) (by decide) (by decide) hW hk) ⟨_, rfl, by omega, by omega, ?_⟩ (fun p _ _ _ h => decS_kept (by decide) (n1 _ hk) _ _ h))
      simp only [f12]
      exact Blk.new _ _ _
    · obtain ⟨h11, h10, h6, h0, h1, h2, h3, h4, h5, _, h7, h8, h9, _⟩ := hall
      obtain ⟨g, e5, hg, hgr, hb⟩ := hI.eval (k := 11) (d := 5) (by decide) h11
      have e29 : a.eval (.tmp 29) = .agg (frC half).toArray := hI.eval (k := 10) (by decide) h10
      simp only [hfi] at hb
      have hR := hW.1
      rw [h6] at hR
      refine wp_store_row _ _ _ rfl g (frC half).toArray e5 e29 46 (frC Fr.zero).toArray hb frSize rfl (by rw [List.all_toArray]; rfl) (hI.pass (by decide) ⟨?_, hW.2.1.rowFar (by omega) _, fun _ => by simp [h1], fun _ => by simp [h11]⟩ ?_)
      · simp only [h6, Bool.or_true, if_true]
        exact ⟨hR.1.rowFar (Ne.symm hgr) _, hR.2.1.setRow (fun h => by omega) _, hR.2.2⟩
      · intro p hp _ _ h
        simp only [decD, List.mem_cons, List.not_mem_nil, or_false] at hp
        rcases hp with rfl | rfl | rfl | rfl | rfl | rfl | rfl | rfl | rfl | rfl | rfl | rfl
        · exact h
        · exact h
        · intro hc; simp [h3] at hc
        · intro hc; simp [h4] at hc
        · exact h
        · exact h
        · exact h
        · intro hc; simp [h8] at hc
        · intro hc; simp [h9] at hc
        · exact h
        · exact h
        · exact ⟨g, e5, hg, hgr, by simpa using hb.row (frC half)⟩
  · intro f a wz hf hI
    have hR := hI.world.1
    have hz2 := hI.world.2.1
    obtain ⟨g, e5, hg, hgr, hb⟩ := hI.slot (11, 5) (by decide) (hf 11 (by decide))
    rw [hf 6 (by decide)] at hR
    rw [hf 12 (by decide), if_pos rfl] at hb
    have ho := hI.out
    clear hI hrs hr0 hf
    simp only [decD, List.foldl_cons, List.foldl_nil] at ho
    generalize a.tmps.getD 19 undef = y19 at *
    generalize a.tmps.getD 20 undef = y20 at *
    generalize a.tmps.getD 21 undef = y21 at *
    generalize a.tmps.getD 22 undef = y22 at *
    generalize a.tmps.getD 23 undef = y23 at *
    generalize a.tmps.getD 24 undef = y24 at *
    generalize a.tmps.getD 25 undef = y25 at *
    generalize a.tmps.getD 26 undef = y26 at *
    generalize a.tmps.getD 27 undef = y27 at *
    generalize a.tmps.getD 28 undef = y28 at *
    generalize a.tmps.getD 29 undef = y29 at *
    rw [e5] at ho
    subst ho
    simp only [List.setIfInBounds_toArray, List.set_cons_zero, List.set_cons_succ]
    obtain ⟨c, d, rs, rfl⟩ : ∃ c d rs', rs = c :: d :: rs' := by
      match rs, hl1 with
      | c :: d :: rs', _ => exact ⟨c, d, rs', rfl⟩
    clear hbu hza' hH
    rw [← HH.out] at hb
    go_wp2_with fail
    refine (num_step2 [c, d] rs hR 2 rfl (by omega) (by omega)).mono ?_
    rintro e w2 ⟨rfl, hr, hk⟩
    replace hb := hb.kept hk hgr
    replace hz2 := hz2.kept hk hn
    clear hR hk
    have c16 : w2.cell? ⟨g, 16, none⟩ = some (.int .u16 0) := hb.cell 16
    have c15 : w2.cell? ⟨g, 15, none⟩ = some (.int .u16 0) := hb.cell 15
    have f16 := hb.frozen 16
    have hty := typ0_lt [c, d]
    rw [show List.take 2 [c, d] = [c, d] from rfl] at hty
    have HB := Lib.hid hb
    have HZ := Lib.hid hz2
    have HR := Lib.hid hr
    have HA := Lib.hid hA
    have HB6 := Lib.hid hB
    clear hb hz2 hr hA hB
    generalize htv : numU [c, d] = ty at *
    have HT := Lib.hid htv
    clear htv
    by_cases ht : ty = 33024
    · subst ht
      go_wp2_with fail
      have hb3 := HB.out.set 16 (.int .u16 33024)
      have hz3 := HZ.out.far (p := ⟨g, 16, none⟩) (show w.heap.size ≠ g by omega) (.int .u16 33024)
      have hr3 := HR.out.far (p := ⟨g, 16, none⟩) (show w.heap.size ≤ g by omega) (Ne.symm hgr) (.int .u16 33024)
      generalize w2.setCell ⟨g, 16, none⟩ (.int .u16 33024) = w3 at *
      clear HB HZ HR c15 c16 f16
      have HR := Lib.hid hr3
      have HZ := Lib.hid hz3
      have HB := Lib.hid hb3
      clear hb3 hz3 hr3
      refine (left_s HR.out).mono ?_
      rintro e w' ⟨rfl, rfl⟩
      have hs0 : (Try.prog.info? 46).map (·.size) = some (frC Fr.zero).toArray.size := frSize
      have h1z : (frC Fr.zero).toArray.all (·.oneCell') = true := by rw [List.all_toArray]; rfl
      by_cases h4 : rs.length < 4
      · have hz3 := HZ.out
        have hz6 := hz3.row (frC Fr.zero)
        have HK := Lib.hid HR.out.2.1
        have HZ6 := Lib.hid hz6
        have hzv : frV Fr.zero = .agg (frC Fr.zero).toArray := rfl
        have hd : decE l = 2 ∧ decF l = Fr.zero := by
          rw [← HL.out, ← HAE.out, ← HBE.out]
          exact dec_short a0 a1 a2 a3 a4 a5 b0 b1 b2 b3 b4 b5 c d rs HT.out h4
        have HD := Lib.hid hd
        have HZV := Lib.hid hzv
        clear hz6 HZ HR HB hd hzv
        unfold Blk at hz3
        have h4' : (rs.length : Int) < 4 := by omega
        clear h4
        go_upto_region 10 with (fail)
        refine wp_region_lit (wpList_build_zero rfl rfl (wpList_store_row rfl _ _ _ rfl w.heap.size (frC Fr.zero).toArray rfl rfl _ _ hz3 hs0 rfl h1z ?_))
        generalize hcs : (frC Fr.zero).toArray = zc at *
        go_wp2_with fail
        refine bodyPost_ret (v := .tuple #[.agg zc, .int .i64 2]) (results_cell_tmp rfl _ _ w.heap.size _ zc _ _ _ rfl rfl (by have h := HZ6.out; unfold Blk at h; rwa [hcs] at h) Try.underlying46 rfl hs0) rfl ⟨?_, ?_⟩
        · rw [HD.out.1, HD.out.2, HZV.out]
          rfl
        · exact HK.out.setRow (fun h => by omega) _
      · obtain ⟨g1, h1, c1, d1, rs, rfl⟩ : ∃ g1 h1 c1 d1 rs', rs = g1 :: h1 :: c1 :: d1 :: rs' := by
          match rs, h4 with
          | [], h => exact absurd (by simp) h
          | [_], h => exact absurd (by simp) h
          | [_, _], h => exact absurd (by simp) h
          | [_, _, _], h => exact absurd (by simp) h
          | g1 :: h1 :: c1 :: d1 :: rs', _ => exact ⟨g1, h1, c1, d1, rs', rfl⟩
        have h4' : ¬ ((g1 :: h1 :: c1 :: d1 :: rs).length : Int) < 4 := by simp; omega
        have hll2 : rs.length ≤ 1500 := by simp at hl; omega
        generalize hrl : (g1 :: h1 :: c1 :: d1 :: rs).length = rl at *
        have h4'' : decide ((rl : Int) < 4) = false := by simp; omega
        have h44 : (4 : Int) ≤ (rl : Int) := by omega
        clear hrl h4 h4'
        go_wp2_with fail
        refine (num_step2 [g1, h1] (c1 :: d1 :: rs) HR.out 2 rfl (by omega) (by omega)).mono ?_
        rintro e w4 ⟨rfl, hr, hk⟩
        have hb := HB.out.kept hk hgr
        have hz2 := HZ.out.kept hk hn
        have hnl := typ0_lt [g1, h1]
        rw [show List.take 2 [g1, h1] = [g1, h1] from rfl] at hnl
        generalize hnv : numU [g1, h1] = n at *
        have HN := Lib.hid hnv
        clear HR HB HZ hk hnv
        have c12 : w4.cell? ⟨g, 12, none⟩ = some (.bool false) := hb.cell 12
        have c13 : w4.cell? ⟨g, 13, none⟩ = some (.int .u8 0) := hb.cell 13
        have c14 : w4.cell? ⟨g, 14, none⟩ = some (.bool false) := hb.cell 14
        have c15 : w4.cell? ⟨g, 15, none⟩ = some (.int .u16 0) := hb.cell 15
        have f12 := hb.frozen 12
        have f13 := hb.frozen 13
        have f14 := hb.frozen 14
        have f15 := hb.frozen 15
        have e13 : fieldV (n : Int) 13 3 = ((n / 8192 : Nat) : Int) := by
          rw [fieldV, if_pos (by decide), fieldN]
          simp
          omega
        have e12 : fieldV (n : Int) 12 1 = ((n / 4096 % 2 : Nat) : Int) := by
          rw [fieldV, if_pos (by decide), fieldN]
          simp
        have e0 : fieldV (n : Int) 0 12 = ((n % 4096 : Nat) : Int) := by
          rw [fieldV, if_pos (by decide), fieldN]
          simp
        have q1 := fun w => field_calls (n : Int) 13 3 w (by omega) (by omega)
        have q2 := fun w => field_calls (n : Int) 12 1 w (by omega) (by omega)
        have q3 := fun w => field_calls (n : Int) 0 12 w (by omega) (by omega)
        rw [e13] at q1
        rw [e12] at q2
        rw [e0] at q3
        clear e13 e12 e0
        have hp7 : n / 8192 ≤ 7 := by omega
        have hv9 : n % 4096 ≤ 4095 := by omega
        have hq1 : n / 4096 % 2 ≤ 1 := by omega
        generalize hpe : n / 8192 = p at *
        generalize hve : n % 4096 = v at *
        generalize hqe : n / 4096 % 2 = q at *
        have HB := Lib.hid hb
        have HZ := Lib.hid hz2
        have HR := Lib.hid hr
        have HPE := Lib.hid hpe
        have HVE := Lib.hid hve
        have HQE := Lib.hid hqe
        clear hb hz2 hr hpe hve hqe
        go_wp2_with fail
        refine (q1 _).mono ?_
        rintro e w' ⟨rfl, rfl⟩
        go_wp2_with fail
        refine (q2 _).mono ?_
        rintro e w' ⟨rfl, rfl⟩
        go_wp2_with fail
        refine (q3 _).mono ?_
        rintro e w' ⟨rfl, rfl⟩
        go_wp2_with fail
        have hb5 := (((HB.out.set 12 (.bool true)).set 13 (.int .u8 (p : Int))).set 14 (.bool ((q : Int) == 1))).set 15 (.int .u16 (v : Int))
        have hzg : w.heap.size ≠ g := by omega
        have hwg : w.heap.size ≤ g := by omega
        have hz5 := (((HZ.out.far (p := ⟨g, 12, none⟩) hzg (.bool true)).far (p := ⟨g, 13, none⟩) hzg (.int .u8 (p : Int))).far (p := ⟨g, 14, none⟩) hzg (.bool ((q : Int) == 1))).far (p := ⟨g, 15, none⟩) hzg (.int .u16 (v : Int))
        have hr5 := (((HR.out.far (p := ⟨g, 12, none⟩) hwg (Ne.symm hgr) (.bool true)).far (p := ⟨g, 13, none⟩) hwg (Ne.symm hgr) (.int .u8 (p : Int))).far (p := ⟨g, 14, none⟩) hwg (Ne.symm hgr) (.bool ((q : Int) == 1))).far (p := ⟨g, 15, none⟩) hwg (Ne.symm hgr) (.int .u16 (v : Int))
        clear HB HZ HR c12 c13 c14 c15 f12 f13 f14 f15 q1 q2 q3
        generalize ((((w4.setCell ⟨g, 12, none⟩ (.bool true)).setCell ⟨g, 13, none⟩ (.int .u8 (p : Int))).setCell ⟨g, 14, none⟩ (.bool ((q : Int) == 1))).setCell ⟨g, 15, none⟩ (.int .u16 (v : Int))) = w5 at *
        refine (num_step2 [c1, d1] rs hr5 2 rfl (by omega) (by omega)).mono ?_
        rintro e w6 ⟨rfl, hr6, hk6⟩
        have hb6 := hb5.kept hk6 hgr
        have hz6 := hz5.kept hk6 hn
        have ek : (((((frC (frHalf a0 a1 a2 a3 a4 a5 b0 b1 b2 b3 b4 b5)).set 16 (.int .u16 33024)).set 12 (.bool true)).set 13 (.int .u8 (p : Int))).set 14 (.bool ((q : Int) == 1))).set 15 (.int .u16 (v : Int)) = frC ⟨a0, a1, a2, a3, a4, a5, b0, b1, b2, b3, b4, b5, true, p, ((q : Int) == 1), v, 33024, []⟩ := rfl
        rw [ek] at hb6
        clear hb5 hz5 hr5 hk6 ek
        have hty := typ0_lt [c1, d1]
        rw [show List.take 2 [c1, d1] = [c1, d1] from rfl] at hty
        generalize htv : numU [c1, d1] = ty at *
        have c16 : w6.cell? ⟨g, 16, none⟩ = some (.int .u16 33024) := hb6.cell 16
        have c15 : w6.cell? ⟨g, 15, none⟩ = some (.int .u16 (v : Int)) := hb6.cell 15
        have f16 := hb6.frozen 16
        have hd : decE l = (if 4094 < n % 4096 then 16 else 0) ∧ decF l = (if 4094 < n % 4096 then Fr.zero else ⟨a0, a1, a2, a3, a4, a5, b0, b1, b2, b3, b4, b5, true, n / 8192, decide (n / 4096 % 2 = 1), n % 4096, ty, rs⟩) := by
          rw [← HL.out, ← HAE.out, ← HBE.out]
          exact dec_tag a0 a1 a2 a3 a4 a5 b0 b1 b2 b3 b4 b5 c d g1 h1 c1 d1 rs n ty HT.out HN.out htv hll2
        rw [HVE.out, HPE.out, HQE.out] at hd
        clear htv HN HT
        have hb7 := hb6.set 16 (.int .u16 (ty : Int))
        have hz7 := hz6.far (p := ⟨g, 16, none⟩) hzg (.int .u16 (ty : Int))
        have hr7 := hr6.far (p := ⟨g, 16, none⟩) hwg (Ne.symm hgr) (.int .u16 (ty : Int))
        have ek : (frC ⟨a0, a1, a2, a3, a4, a5, b0, b1, b2, b3, b4, b5, true, p, ((q : Int) == 1), v, 33024, []⟩).set 16 (.int .u16 (ty : Int)) = frC ⟨a0, a1, a2, a3, a4, a5, b0, b1, b2, b3, b4, b5, true, p, ((q : Int) == 1), v, ty, []⟩ := rfl
        rw [ek] at hb7
        have HB := Lib.hid hb7
        have HZ := Lib.hid hz7
        have HR := Lib.hid hr7
        have HD := Lib.hid hd
        clear hb6 hz6 hr6 hb7 hz7 hr7 ek hd
        by_cases hv : 4094 < v
        · have hv' : (4094 : Int) < (v : Int) := by omega
          have hz3 := HZ.out
          have hz6 := hz3.row (frC Fr.zero)
          have HK := Lib.hid HR.out.2.1
          have HZ6 := Lib.hid hz6
          have hzv : frV Fr.zero = .agg (frC Fr.zero).toArray := rfl
          have HZV := Lib.hid hzv
          clear hz6 HZ HR HB hzv
          unfold Blk at hz3
          go_upto_region 18 with (fail)
          refine wp_region_lit (wpList_build_zero rfl rfl (wpList_store_row rfl _ _ _ rfl w.heap.size (frC Fr.zero).toArray rfl rfl _ _ hz3 hs0 rfl h1z ?_))
          generalize hcs : (frC Fr.zero).toArray = zc at *
          go_wp2_with fail
          refine bodyPost_ret (v := .tuple #[.agg zc, .int .i64 16]) (results_cell_tmp rfl _ _ w.heap.size _ zc _ _ _ rfl rfl (by have h := HZ6.out; unfold Blk at h; rwa [hcs] at h) Try.underlying46 rfl hs0) rfl ⟨?_, ?_⟩
          · rw [HD.out.1, HD.out.2, if_pos hv, if_pos hv, HZV.out]
            rfl
          · exact HK.out.setRow (fun h => by omega) _
        · have hv' : decide ((4094 : Int) < (v : Int)) = false := by simp; omega
          have hv2 : (v : Int) ≤ 4094 := by omega
          go_wp2_with fail
          generalize w6.setCell ⟨g, 16, none⟩ (.int .u16 (ty : Int)) = w7 at *
          have hr7 := HR.out
          have hb7 := HB.out
          have hz7 := HZ.out
          clear c15 c16 f16 HB HZ HR
          have HR := Lib.hid hr7
          have HB := Lib.hid hb7
          have HZ := Lib.hid hz7
          clear hr7 hb7 hz7
          refine (left_s HR.out).mono ?_
          rintro e w' ⟨rfl, rfl⟩
          go_wp2_with fail
          refine (raw_step rs [] (by rw [List.append_nil]; exact HR.out) rs.length rfl).mono ?_
          rintro e w8 ⟨rfl, hr, hk⟩
          have hb4 := HB.out.kept hk hgr
          have hz4 := HZ.out.kept hk hn
          have hk4 := hr.2.1
          clear HR HZ HB hr hk
          have c17 : w8.cell? ⟨g, 17, none⟩ = some (.string (bs [])) := hb4.cell 17
          have f17 := hb4.frozen 17
          have hb5 := hb4.set 17 (.string (bs rs))
          have hz5 := hz4.far (p := ⟨g, 17, none⟩) hzg (.string (bs rs))
          have hk5 := hk4.setCell (p := ⟨g, 17, none⟩) (fun h => by simp at h; omega) (.string (bs rs))
          have ek : (frC ⟨a0, a1, a2, a3, a4, a5, b0, b1, b2, b3, b4, b5, true, p, ((q : Int) == 1), v, ty, []⟩).set 17 (.string (bs rs)) = frC ⟨a0, a1, a2, a3, a4, a5, b0, b1, b2, b3, b4, b5, true, p, ((q : Int) == 1), v, ty, rs⟩ := rfl
          rw [ek] at hb5
          have hs : (Try.prog.info? 46).map (·.size) = some (frC ⟨a0, a1, a2, a3, a4, a5, b0, b1, b2, b3, b4, b5, true, p, ((q : Int) == 1), v, ty, rs⟩).toArray.size := frSize
          have h1c : (frC ⟨a0, a1, a2, a3, a4, a5, b0, b1, b2, b3, b4, b5, true, p, ((q : Int) == 1), v, ty, rs⟩).toArray.all (·.oneCell') = true := by rw [List.all_toArray]; rfl
          have hold : (frC Fr.zero).toArray.size = (frC ⟨a0, a1, a2, a3, a4, a5, b0, b1, b2, b3, b4, b5, true, p, ((q : Int) == 1), v, ty, rs⟩).toArray.size := rfl
          have HK := Lib.hid hk5
          have hz6 := hz5.row (frC ⟨a0, a1, a2, a3, a4, a5, b0, b1, b2, b3, b4, b5, true, p, ((q : Int) == 1), v, ty, rs⟩)
          have HZ := Lib.hid hz6
          have hqb : ((q : Int) == 1) = decide (q = 1) := by rw [Bool.eq_iff_iff]; simp; omega
          have HQB := Lib.hid hqb
          clear hb4 hz4 hk4 hk5 hz6 ek hqb
          unfold Blk at hb5 hz5
          generalize hcs : (frC ⟨a0, a1, a2, a3, a4, a5, b0, b1, b2, b3, b4, b5, true, p, ((q : Int) == 1), v, ty, rs⟩).toArray = cs at *
          go_wp2_with (first | refine wpList_load_row rfl _ _ rfl g rfl _ cs _ _ hb5 Try.underlying46 rfl hs ?_ | refine wpList_store_row rfl _ _ _ rfl w.heap.size cs rfl rfl _ _ hz5 hs hold h1c ?_)
          refine bodyPost_ret (v := .tuple #[.agg cs, .int .i64 0]) (results_cell_tmp rfl _ _ w.heap.size _ cs _ _ _ rfl rfl (by have h := HZ.out; unfold Blk at h; rwa [hcs] at h) Try.underlying46 rfl hs) rfl ⟨?_, ?_⟩
          · rw [HD.out.2, HD.out.1, if_neg hv, if_neg hv, frV, ← HQB.out, hcs]
            rfl
          · exact HK.out.setRow (fun h => by omega) _
    · have ht' : ((ty : Int) == 33024) = false := by rw [beq_eq_false_iff_ne]; omega
      go_wp2_with fail
      have hb3 := HB.out.set 16 (.int .u16 (ty : Int))
      have hz3 := HZ.out.far (p := ⟨g, 16, none⟩) (show w.heap.size ≠ g by omega) (.int .u16 (ty : Int))
      have hr3 := HR.out.far (p := ⟨g, 16, none⟩) (show w.heap.size ≤ g by omega) (Ne.symm hgr) (.int .u16 (ty : Int))
      generalize w2.setCell ⟨g, 16, none⟩ (.int .u16 (ty : Int)) = w3 at *
      clear HB HZ HR c15 c16 f16
      have HR := Lib.hid hr3
      have HZ := Lib.hid hz3
      have HB := Lib.hid hb3
      clear hb3 hz3 hr3
      refine (left_s HR.out).mono ?_
      rintro e w' ⟨rfl, rfl⟩
      go_wp2_with fail
      refine (raw_step rs [] (by rw [List.append_nil]; exact HR.out) rs.length rfl).mono ?_
      rintro e w4 ⟨rfl, hr, hk⟩
      have hb4 := HB.out.kept hk hgr
      have hz4 := HZ.out.kept hk hn
      have hk4 := hr.2.1
      clear HR HZ HB hr hk
      have c17 : w4.cell? ⟨g, 17, none⟩ = some (.string (bs [])) := hb4.cell 17
      have f17 := hb4.frozen 17
      have hb5 := hb4.set 17 (.string (bs rs))
      have hz5 := hz4.far (p := ⟨g, 17, none⟩) (show w.heap.size ≠ g by omega) (.string (bs rs))
      have hk5 := hk4.setCell (p := ⟨g, 17, none⟩) (fun h => by simp at h; omega) (.string (bs rs))
      have ek : ((frC (frHalf a0 a1 a2 a3 a4 a5 b0 b1 b2 b3 b4 b5)).set 16 (.int .u16 (ty : Int))).set 17 (.string (bs rs)) = frC ⟨a0, a1, a2, a3, a4, a5, b0, b1, b2, b3, b4, b5, false, 0, false, 0, ty, rs⟩ := rfl
      rw [ek] at hb5
      have hs : (Try.prog.info? 46).map (·.size) = some (frC ⟨a0, a1, a2, a3, a4, a5, b0, b1, b2, b3, b4, b5, false, 0, false, 0, ty, rs⟩).toArray.size := frSize
      have h1c : (frC ⟨a0, a1, a2, a3, a4, a5, b0, b1, b2, b3, b4, b5, false, 0, false, 0, ty, rs⟩).toArray.all (·.oneCell') = true := by rw [List.all_toArray]; rfl
      have hold : (frC Fr.zero).toArray.size = (frC ⟨a0, a1, a2, a3, a4, a5, b0, b1, b2, b3, b4, b5, false, 0, false, 0, ty, rs⟩).toArray.size := rfl
      have HK := Lib.hid hk5
      have hz6 := hz5.row (frC ⟨a0, a1, a2, a3, a4, a5, b0, b1, b2, b3, b4, b5, false, 0, false, 0, ty, rs⟩)
      have HZ := Lib.hid hz6
      have hd : decE l = 0 ∧ decF l = ⟨a0, a1, a2, a3, a4, a5, b0, b1, b2, b3, b4, b5, false, 0, false, 0, ty, rs⟩ := by
        rw [← HL.out, ← HAE.out, ← HBE.out]
        exact dec_plain a0 a1 a2 a3 a4 a5 b0 b1 b2 b3 b4 b5 c d rs ty HT.out ht (by simp at hl; omega)
      have HD := Lib.hid hd
      clear hb4 hz4 hk4 hk5 hz6 hd
      unfold Blk at hb5 hz5
      generalize hcs : (frC ⟨a0, a1, a2, a3, a4, a5, b0, b1, b2, b3, b4, b5, false, 0, false, 0, ty, rs⟩).toArray = cs at *
      go_wp2_with (first | refine wpList_load_row rfl _ _ rfl g rfl _ cs _ _ hb5 Try.underlying46 rfl hs ?_ | refine wpList_store_row rfl _ _ _ rfl w.heap.size cs rfl rfl _ _ hz5 hs hold h1c ?_)
      refine bodyPost_ret (v := .tuple #[.agg cs, .int .i64 0]) (results_cell_tmp rfl _ _ w.heap.size _ cs _ _ _ rfl rfl (by have h := HZ.out; unfold Blk at h; rwa [hcs] at h) Try.underlying46 rfl hs) rfl ⟨?_, ?_⟩
      · rw [HD.out.2, HD.out.1, frV, hcs]
        rfl
      · exact HK.out.setRow (fun h => by omega) _
end Go.Proofs.Ytclnginkplhlhaa
