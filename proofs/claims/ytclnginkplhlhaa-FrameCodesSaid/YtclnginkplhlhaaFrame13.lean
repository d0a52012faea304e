/- The walk of FrameReads. Condition: the text's length. -/
import Derived.Test.YtclnginkplhlhaaFrame12
namespace Go.Proofs.Ytclnginkplhlhaa
open Go.RowKit
def lF : List Leaf := List.replicate 12 (.i .u8) ++ [.b, .i .u8, .b, .i .u16, .i .u16, .s]
theorem leavesF : leavesOf Try.prog 4 46 = some lF := by kernel_rfl
theorem aggF : aggT Try.prog 46 = true := by kernel_rfl
theorem guardF : Try.prog.eqGuardType Try.prog.depth 46 = false := by kernel_rfl
theorem fitsF (x : Fr) : fits lF (frC x) := by
  simp [fits, lF, frC, List.replicate, Leaf.fit]
theorem eqF (x : Fr) : eqCells (frC x) (frC x) = true := eqCells_self (fitsF x)
attribute [local irreducible] Go.wpQuiet
set_option maxRecDepth 100000 in
set_option maxHeartbeats 1000000 in
theorem frameReads_walk (l0 : List UInt8) (w : World) (hl0 : (l0.length : Int) ≤ 140737488351232) :
    Calls Try.prog 6 #[.string (bs l0)] w fun e w' => e = .returned (.bool true) ∧ Kept noB w w' := by
  have hz0 : ((bs l0).size : Int) = (l0.length : Int) := by rw [bs_size]
  have key : ∃ l : List UInt8, l.length ≤ 1600 ∧ ((1600 < (bs l0).size ∧ (bs l0).extract 0 1600 = bs l) ∨ ((bs l0).size ≤ 1600 ∧ (bs l0).extract 0 (bs l0).size = bs l)) := by
    by_cases h : 1600 < (bs l0).size
    · exact ⟨l0.take 1600, by simp; omega, .inl ⟨h, bs_take l0 1600⟩⟩
    · refine ⟨l0, by rw [bs_size] at h; omega, .inr ⟨by omega, ?_⟩⟩
      rw [bs_size, bs_take, List.take_length]
  obtain ⟨l, hl, hcase⟩ := key
  have hsz : ((bs l0).size : Int) ≤ 140737488351232 := by omega
  clear hz0
  have hok : (decF l).ok := decF_ok l (by omega)
  have q1 := fun w => decode_calls l w
  have q2 := fun w => rdecode_calls l w
  have q3 := fun w => told_calls (decF l) w
  have q4 := fun w => encode_calls (decF l) w hok
  have hend := fun h => enc_dec l h
  have hs : (Try.prog.info? 46).map (·.size) = some (frC (decF l)).toArray.size := frSize
  have hsr : (Try.prog.info? 56).map (·.size) = some (frC (decF l)).toArray.size := rfrSize
  have hold : (frC Fr.zero).toArray.size = (frC (decF l)).toArray.size := rfl
  have h1 := oneC (decF l)
  have heq := eqF (decF l)
  have hft := fitsF (decF l)
  unfold frV at q1 q2 q3 q4
  generalize decE l = n at *
  generalize encE (decF l) = m at *
  generalize encL (decF l) = lt at *
  generalize frC (decF l) = cs at *
  have Q1 := Lib.hid q1
  have Q2 := Lib.hid q2
  have Q3 := Lib.hid q3
  have Q4 := Lib.hid q4
  have HEND := Lib.hid hend
  clear q1 q2 q3 q4 hend hok
  rcases hcase with ⟨hlt, hx⟩ | ⟨hlt, hx⟩
  all_goals
    go_enter Try.func6, Try.ntmps6
    go_wp2_with fail
    refine (speaks04 _).mono ?_
    rintro e w1 ⟨rfl, hk1⟩
    go_wp2_with fail
    refine (Q1.out _).mono ?_
    rintro e w2 ⟨rfl, hk2⟩
    have hz : (w2.alloc (.cells (frC Fr.zero).toArray 46)).heap[w2.heap.size]? = some (.cells (frC Fr.zero).toArray 46 (0, 0)) := heap_alloc_new w2 _
    have hk := hk1.no hk2
    have hb : Blk (World.setRow (w2.alloc (.cells (frC Fr.zero).toArray 46)) w2.heap.size cs.toArray) w2.heap.size 46 cs := Blk.row hz cs
    have hk3 : Kept noB w (World.setRow (w2.alloc (.cells (frC Fr.zero).toArray 46)) w2.heap.size cs.toArray) := (hk.alloc _).setRow (fun h => by have := hk.size; omega) _
    have HB := Lib.hid hb
    have HK := Lib.hid hk3
    clear hb hk3 hk1 hk2 hk
    go_wp2_with (first | refine wpList_store_row rfl _ _ _ rfl w2.heap.size cs.toArray rfl rfl _ (frC Fr.zero).toArray hz hs hold h1 ?_)
    refine (Q2.out _).mono ?_
    rintro e w4 ⟨rfl, hk4⟩
    have hb4 := HB.out.kept hk4 (fun e => e)
    have hkk := HK.out.no hk4
    have hlt4 := hb4.lt
    clear HB HK hz hk4
    have hz : (w4.alloc (.cells (frC Fr.zero).toArray 56)).heap[w4.heap.size]? = some (.cells (frC Fr.zero).toArray 56 (0, 0)) := heap_alloc_new w4 _
    have hb : Blk (World.setRow (w4.alloc (.cells (frC Fr.zero).toArray 56)) w4.heap.size cs.toArray) w4.heap.size 56 cs := Blk.row hz cs
    have hb5 : Blk (World.setRow (w4.alloc (.cells (frC Fr.zero).toArray 56)) w4.heap.size cs.toArray) w2.heap.size 46 cs := (hb4.alloc _).rowFar (by omega) _
    have hk3 : Kept noB w (World.setRow (w4.alloc (.cells (frC Fr.zero).toArray 56)) w4.heap.size cs.toArray) := (hkk.alloc _).setRow (fun h => by have := hkk.size; omega) _
    have HB := Lib.hid hb
    have HB5 := Lib.hid hb5
    have HK := Lib.hid hk3
    clear hb hb5 hk3 hb4 hkk
    go_upto_region 6 with (first | refine wpList_store_row rfl _ _ _ rfl w4.heap.size cs.toArray rfl rfl _ (frC Fr.zero).toArray hz hsr hold h1 ?_)
    change Code.wp _ _ _ _ (World.setRow (w4.alloc (.cells (frC Fr.zero).toArray 56)) w4.heap.size cs.toArray)
    have hb := HB.out
    have hb5 := HB5.out
    have hk5 := HK.out
    clear HB HB5 HK hz
    generalize World.setRow (w4.alloc (.cells (frC Fr.zero).toArray 56)) w4.heap.size cs.toArray = W at *
    have hrow : ∀ w', (∃ p : Regrown, w' = Sort.grow (redrawn W p.d) p.os) → w'.heap[w2.heap.size]? = some (.cells cs.toArray 46 (0, 0)) := by
      rintro _ ⟨p, rfl⟩
      exact hb5.kept (Kept.regrown W p.d p.os) (fun e => e)
    have hrow2 : ∀ w', (∃ p : Regrown, w' = Sort.grow (redrawn W p.d) p.os) → w'.heap[w4.heap.size]? = some (.cells cs.toArray 56 (0, 0)) := by
      rintro _ ⟨p, rfl⟩
      exact hb.kept (Kept.regrown W p.d p.os) (fun e => e)
    have c3 := Calls.qkept (w := W) (fun w1 _ => Q3.out w1)
    have hn : ((n : Int) != (n : Int)) = false := by simp
    clear hb
    refine wp_region_quiet_below (by kernel_rfl) (by kernel_rfl) ?_
    repeat (first | (first | refine wpQuiet_load_rowG rfl _ _ rfl w2.heap.size rfl _ cs.toArray _ _ hrow Try.underlying46 rfl hs ?_ | refine wpQuiet_load_rowG rfl _ _ rfl w4.heap.size rfl _ cs.toArray _ _ hrow2 Try.underlying56 rfl hsr ?_ | refine wpQuiet_neq_cells rfl _ _ _ _ rfl cs cs rfl rfl leavesF (by decide) aggF guardF hft hft ?_) | quiet_step (with_reducible exact c3 _ _))
    refine wpQuiet_nil ?_
    intro _ hw'
    obtain ⟨⟨dq, osq⟩, hw''⟩ := hw'
    subst hw''
    have kR := Kept.regrown W dq osq
    have hb6 := hb5.kept kR (fun e => e)
    have hk6 := hk5.no kR
    clear hrow hrow2 c3 kR hb5 hk5
    generalize Sort.grow (redrawn W dq) osq = W6 at *
    unfold Blk at hb6
    go_wp2_with (first | refine wpList_load_row rfl _ _ rfl w2.heap.size rfl _ cs.toArray _ _ hb6 Try.underlying46 rfl hs ?_)
    refine (Q4.out _).mono ?_
    rintro e w7 ⟨rfl, hk7⟩
    have hk8 := hk6.no hk7
    clear hk6 hk7 hb6
    by_cases hn0 : n = 0
    · obtain ⟨rfl, rfl⟩ := HEND.out hn0
      subst hn0
      clear hn HEND
      go_wp2_with fail
      go_ret
      exact ⟨rfl, hk8⟩
    · have hn1 : ((n : Int) != 0) = true := by simp; omega
      clear hn0 hn HEND
      go_wp2_with fail
      go_ret
      exact ⟨rfl, hk8⟩
end Go.Proofs.Ytclnginkplhlhaa
