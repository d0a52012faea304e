/- The walk of FrameCodes. Conditions: the frame's numbers are of their kinds, its text has a length. -/
import Derived.Test.YtclnginkplhlhaaFrame13
namespace Go.Proofs.Ytclnginkplhlhaa
open Go.RowKit
theorem lawSize : (Try.prog.info? 50).map (·.size) = some 18 := by kernel_rfl
attribute [local irreducible] Go.wpQuiet
set_option maxRecDepth 100000 in
set_option maxHeartbeats 1000000 in
theorem frameCodes_walk (x0 : Fr) (w : World) (h0 : x0.pcp < 256) (h2 : x0.vid < 65536) (h3 : x0.ty < 65536) (hl0 : (x0.data.length : Int) ≤ 9223372036854775807) :
    Calls Try.prog 5 #[frV x0] w fun e w' => e = .returned (.bool true) ∧ Kept noB w w' := by
  have key : ∃ l : List UInt8, l.length ≤ 1600 ∧ ((1600 < (bs x0.data).size ∧ (bs x0.data).extract 0 1600 = bs l) ∨ ((bs x0.data).size ≤ 1600 ∧ (bs x0.data).extract 0 (bs x0.data).size = bs l)) := by
    by_cases h : 1600 < (bs x0.data).size
    · exact ⟨x0.data.take 1600, by simp; omega, .inl ⟨h, bs_take x0.data 1600⟩⟩
    · refine ⟨x0.data, by rw [bs_size] at h; omega, .inr ⟨by omega, ?_⟩⟩
      rw [bs_size, bs_take, List.take_length]
  obtain ⟨l, hl, hcase⟩ := key
  obtain ⟨x, hxe⟩ : ∃ x : Fr, x = ⟨x0.a0, x0.a1, x0.a2, x0.a3, x0.a4, x0.a5, x0.b0, x0.b1, x0.b2, x0.b3, x0.b4, x0.b5, x0.tg, x0.pcp, x0.dei, x0.vid, x0.ty, l⟩ := ⟨_, rfl⟩
  have hcut : (frC x0).set 17 (.string (bs l)) = frC x := by rw [hxe]; rfl
  have hok : x.ok := by rw [hxe]; exact ⟨h0, h2, h3, by simp only; omega⟩
  have hsz : ((bs x0.data).size : Int) ≤ 9223372036854775807 := by rw [bs_size]; exact hl0
  have hc17 : (frC x0)[17]? = some (.string (bs x0.data)) := rfl
  have hs0 : (frC x0).length = 18 := rfl
  have h10 := oneC x0
  clear h0 h2 h3 hl0 hxe
  have q1 := fun w => encode_calls x w hok
  have q2 := fun w => rencode_calls x w hok
  have q3 := fun w => told_calls x w
  have q4 := fun w => decode_calls (encL x) w
  have hend := fun h => dec_enc x hok h
  have hs : (Try.prog.info? 46).map (·.size) = some (frC x).toArray.size := frSize
  have hsl : (Try.prog.info? 50).map (·.size) = some (frC x).toArray.size := lawSize
  have hold : (frC Fr.zero).toArray.size = (frC x).toArray.size := rfl
  have h1 := oneC x
  have hft := fitsF x
  have heq := eqF x
  unfold frV at *
  generalize bs x0.data = s0 at *
  have hdec : encE x = 0 → ∀ w, Calls Try.prog 21 #[.string (bs (encL x))] w fun e w' => e = .returned (.tuple #[.agg (frC x).toArray, .int .i64 0]) ∧ Kept noB w w' := by
    intro h w
    have := q4 w
    rw [(hend h).1, (hend h).2] at this
    exact this
  clear hend q4 hok
  generalize encE x = m at *
  generalize encL x = lt at *
  generalize frC x = cs at *
  generalize frC x0 = c0 at *
  have Q1 := Lib.hid q1
  have Q2 := Lib.hid q2
  have Q3 := Lib.hid q3
  have HD := Lib.hid hdec
  clear q1 q2 q3 hdec
  have bb : Blk (w.alloc (.cells c0.toArray 50)) w.heap.size 50 c0 := Blk.new _ _ _
  have kk : Kept noB w (w.alloc (.cells c0.toArray 50)) := (Kept.refl _ _).alloc _
  have BB := Lib.hid bb
  have KK := Lib.hid kk
  have HC := Lib.hid hcut
  have H17 := Lib.hid hc17
  clear bb kk hcut hc17
  rcases hcase with ⟨hlt, hx⟩ | ⟨hlt, hx⟩
  all_goals
    go_enter Try.func5, Try.ntmps5
    go_wp2_with fail
    refine (speaks04 _).mono ?_
    rintro e w1 ⟨rfl, hk1⟩
    have bb := BB.out.kept hk1 (fun e => e)
    have kk := KK.out.no hk1
    have c17 : w1.cell? ⟨w.heap.size, 17, none⟩ = some (.string s0) := by rw [bb.cell, H17.out]
    have f17 := bb.frozen 17
    have b2 := bb.set 17 (.string (bs l))
    rw [HC.out] at b2
    have k2 := kk.setCell (p := ⟨w.heap.size, 17, none⟩) (fun h => by simp at h) (.string (bs l))
    have K2 := Lib.hid k2
    have B2 := Lib.hid b2
    clear bb kk hk1 k2
    unfold Blk at b2
    go_wp2_with (first | refine wpList_load_row rfl _ _ rfl w.heap.size rfl _ cs.toArray _ _ b2 Try.underlying50 rfl hsl ?_)
    refine (Q3.out _).mono ?_
    rintro e w2 ⟨rfl, hk2⟩
    have B3 := B2.out.kept hk2 (fun e => e)
    have K3 := K2.out.no hk2
    clear B2 K2 hk2 b2 c17 f17
    go_wp2_with fail
    refine (Q1.out _).mono ?_
    rintro e w3 ⟨rfl, hk3⟩
    have B4 := B3.kept hk3 (fun e => e)
    have K4 := K3.no hk3
    clear B3 K3 hk3
    have HB4 := Lib.hid B4
    have HK4 := Lib.hid K4
    clear K4
    unfold Blk at B4
    go_wp2_with (first | refine wpList_load_row rfl _ _ rfl w.heap.size rfl _ cs.toArray _ _ B4 Try.underlying50 rfl hsl ?_)
    refine (Q2.out _).mono ?_
    rintro e w4 ⟨rfl, hk4⟩
    have B5 := HB4.out.kept hk4 (fun e => e)
    have K5 := HK4.out.no hk4
    clear HB4 HK4 hk4 B4
    by_cases hm : m = 0
    · subst hm
      have D := HD.out rfl
      have hmm : ((0 : Nat) : Int) = 0 := rfl
      have HD' := Lib.hid D
      have HB5 := Lib.hid B5
      have HK5 := Lib.hid K5
      clear D B5 K5 HD
      go_wp2_with fail
      refine (HD'.out _).mono ?_
      rintro e w5 ⟨rfl, hk5⟩
      have B6 := HB5.out.kept hk5 (fun e => e)
      have K6 := HK5.out.no hk5
      clear HB5 HK5 hk5
      have hz : (w5.alloc (.cells (frC Fr.zero).toArray 46)).heap[w5.heap.size]? = some (.cells (frC Fr.zero).toArray 46 (0, 0)) := heap_alloc_new w5 _
      have hb : Blk (World.setRow (w5.alloc (.cells (frC Fr.zero).toArray 46)) w5.heap.size cs.toArray) w5.heap.size 46 cs := Blk.row hz cs
      have hb5 : Blk (World.setRow (w5.alloc (.cells (frC Fr.zero).toArray 46)) w5.heap.size cs.toArray) w.heap.size 50 cs := (B6.alloc _).rowFar (by have := B6.lt; omega) _
      have hk3 : Kept noB w (World.setRow (w5.alloc (.cells (frC Fr.zero).toArray 46)) w5.heap.size cs.toArray) := (K6.alloc _).setRow (fun h => by have := K6.size; omega) _
      have HB := Lib.hid hb
      have HB5 := Lib.hid hb5
      have HK := Lib.hid hk3
      clear hb hb5 hk3 B6 K6
      go_upto_region 11 with (first | refine wpList_store_row rfl _ _ _ rfl w5.heap.size cs.toArray rfl rfl _ (frC Fr.zero).toArray hz hs hold h1 ?_)
      change Code.wp _ _ _ _ (World.setRow (w5.alloc (.cells (frC Fr.zero).toArray 46)) w5.heap.size cs.toArray)
      have hb := HB.out
      have hb5 := HB5.out
      have hk5 := HK.out
      clear HB HB5 HK hz
      generalize World.setRow (w5.alloc (.cells (frC Fr.zero).toArray 46)) w5.heap.size cs.toArray = W at *
      have hrow : ∀ w', (∃ p : Regrown, w' = Sort.grow (redrawn W p.d) p.os) → w'.heap[w5.heap.size]? = some (.cells cs.toArray 46 (0, 0)) := by
        rintro _ ⟨p, rfl⟩
        exact hb.kept (Kept.regrown W p.d p.os) (fun e => e)
      have hrow2 : ∀ w', (∃ p : Regrown, w' = Sort.grow (redrawn W p.d) p.os) → w'.heap[w.heap.size]? = some (.cells cs.toArray 50 (0, 0)) := by
        rintro _ ⟨p, rfl⟩
        exact hb5.kept (Kept.regrown W p.d p.os) (fun e => e)
      have c3 := Calls.qkept (w := W) (fun w1 _ => Q3.out w1)
      clear hb hb5
      refine wp_region_quiet_below (by kernel_rfl) (by kernel_rfl) ?_
      repeat (first | (first | refine wpQuiet_load_rowG rfl _ _ rfl w5.heap.size rfl _ cs.toArray _ _ hrow Try.underlying46 rfl hs ?_ | refine wpQuiet_load_rowG rfl _ _ rfl w.heap.size rfl _ cs.toArray _ _ hrow2 Try.underlying50 rfl hsl ?_ | (refine wpQuiet_eql_cells rfl _ _ _ _ rfl cs cs rfl rfl leavesF (by decide) aggF guardF hft hft ?_; rw [heq])) | quiet_step (with_reducible exact c3 _ _))
      refine wpQuiet_nil ?_
      intro _ hw'
      obtain ⟨⟨dq, osq⟩, hw''⟩ := hw'
      subst hw''
      have kR := Kept.regrown W dq osq
      have hk6 := hk5.no kR
      clear hrow hrow2 c3 kR hk5
      generalize Sort.grow (redrawn W dq) osq = W6 at *
      go_wp2_with fail
      go_ret
      exact ⟨rfl, hk6⟩
    · have hm1 : ((m : Int) != 0) = true := by simp; omega
      clear hm
      go_wp2_with fail
      go_ret
      exact ⟨rfl, K5⟩
end Go.Proofs.Ytclnginkplhlhaa
