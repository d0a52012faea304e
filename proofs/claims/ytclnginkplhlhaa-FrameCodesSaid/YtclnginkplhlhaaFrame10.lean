/- The walks of girderref04.six and of its Decode. Condition: the text's length. -/
import Derived.Test.YtclnginkplhlhaaFrame9
namespace Go.Proofs.Ytclnginkplhlhaa
open Go.RowKit
theorem run_slice_h6 (l : List UInt8) (n : Nat) (w : World) (h : n ≤ l.length) : (Instr.sliceAt 9 (.string (bs l)) none (some (.int .i64 (n : Int))) none).run Try.prog w = .ok (.string (bs (l.take n))) w := by
  have hz : (bs l).size = l.length := bs_size l
  have h1 : (n : Int) ≤ ((bs l).size : Int) := by omega
  have h0 : (0 : Int) ≤ (n : Int) := by omega
  rw [← bs_take]
  simp [go_sem, h1, h0, Try.underlying9]
theorem run_slice_lh6 (l : List UInt8) (m n : Nat) (w : World) (h : n ≤ l.length) (hm : m ≤ n) : (Instr.sliceAt 9 (.string (bs l)) (some (.int .i64 (m : Int))) (some (.int .i64 (n : Int))) none).run Try.prog w = .ok (.string (bs ((l.drop m).take (n - m)))) w := by
  have hz : (bs l).size = l.length := bs_size l
  have h1 : (n : Int) ≤ ((bs l).size : Int) := by omega
  have h0 : (0 : Int) ≤ (m : Int) := by omega
  have h2 : (m : Int) ≤ (n : Int) := by omega
  rw [← bs_extract]
  simp [go_sem, h1, h0, h2, Try.underlying9]
theorem six_set (l : List UInt8) (k : Nat) (hk : k < 6) (hl : 6 ≤ l.length) : (vb (l.take k ++ List.replicate (6 - k) 0)).set k (.int .u8 ((l[k]'(by omega)).toNat : Int)) = vb (l.take (k + 1) ++ List.replicate (6 - (k + 1)) 0) := by
  rw [vb_set]
  congr 1
  have hlt : (l.take k).length = k := by rw [List.length_take]; omega
  rw [List.set_append_right _ _ (by omega), hlt, Nat.sub_self, show 6 - k = (6 - (k + 1)) + 1 by omega, List.replicate_succ, List.set_cons_zero, List.take_succ_eq_append_getElem (by omega), List.append_assoc]
  rfl
theorem arrSize : (Try.prog.info? 43).map (·.size) = some 6 := by kernel_rfl
set_option maxRecDepth 100000 in
theorem six_calls (l : List UInt8) (w : World) (hl : 6 ≤ l.length) : Calls Try.prog 46 #[.string (bs l)] w fun e w' => e = .returned (.agg (vb (l.take 6)).toArray) ∧ Kept noB w w' := by
  have hz : 6 ≤ (bs l).size := by rw [bs_size]; exact hl
  have k0 : Kept noB w ((w.alloc (.cells (vb (List.replicate 6 0)).toArray 43)).alloc (.cells (vb (List.replicate 6 0)).toArray 43)) := ((Kept.refl _ _).alloc _).alloc _
  have b0 := (Blk.new w 43 (vb (List.replicate 6 0))).alloc (.cells (vb (List.replicate 6 0)).toArray 43)
  have b1 := Blk.new (w.alloc (.cells (vb (List.replicate 6 0)).toArray 43)) 43 (vb (List.replicate 6 0))
  rw [World.size_alloc] at b1
  go_enter Try.func46, Try.ntmps46
  go_wp2_with fail
  go_loopw [4] (fun i wr => ∃ k : Nat, k ≤ 6 ∧ i = .int .i64 k ∧ Blk wr w.heap.size 43 (vb (List.replicate 6 0)) ∧ Blk wr (w.heap.size + 1) 43 (vb (l.take k ++ List.replicate (6 - k) 0)) ∧ Kept noB w wr) (fun i _ => 6 - (intOf i).toNat)
  case atStart => exact ⟨0, by omega, rfl, b0, b1, k0⟩
  case round =>
    clear b0 b1 k0
    obtain ⟨k, hk, rfl, b0, b1, hkp⟩ := hrel
    by_cases hk6 : k < 6
    · have hlen : (l.take k ++ List.replicate (6 - k) (0 : UInt8)).length = 6 := by simp; omega
      have hc : ∃ v, wr.cell? ⟨w.heap.size + 1, k, none⟩ = some v := by
        rw [b1.cell]
        exact ⟨_, List.getElem?_eq_getElem (by rw [vb_length, hlen]; exact hk6)⟩
      obtain ⟨v, hc⟩ := hc
      have hf := b1.frozen k
      have hb3 := b1.set k (.int .u8 ((l[k]'(by omega)).toNat : Int))
      rw [six_set l k hk6 hl] at hb3
      have hb4 := b0.far (p := ⟨w.heap.size + 1, k, none⟩) (by simp) (.int .u8 ((l[k]'(by omega)).toNat : Int))
      have hk4 := hkp.setCell (p := ⟨w.heap.size + 1, k, none⟩) (fun h => by simp at h; omega) (.int .u8 ((l[k]'(by omega)).toNat : Int))
      have H3 := Lib.hid hb3
      have H4 := Lib.hid hb4
      have HK := Lib.hid hk4
      have hlt : k < (bs l).size := by omega
      clear b0 b1 hkp hb3 hb4 hk4 hlen
      go_wp2_with fail
      exact ⟨⟨k + 1, by omega, by go_num, H4.out, H3.out, HK.out⟩, by simp [intOf]; omega⟩
    · obtain rfl : k = 6 := by omega
      rw [show 6 - 6 = 0 from rfl, List.replicate_zero, List.append_nil] at b1
      have hA : (l.take 6).length = 6 := by rw [List.length_take]; omega
      have hs : (Try.prog.info? 43).map (·.size) = some (vb (l.take 6)).toArray.size := by rw [arrSize, List.size_toArray, vb_length, hA]
      have hold : (vb (List.replicate 6 0)).toArray.size = (vb (l.take 6)).toArray.size := by rw [List.size_toArray, List.size_toArray, vb_length, vb_length, hA]; rfl
      have h1c : (vb (l.take 6)).toArray.all (·.oneCell') = true := by
        rw [List.all_toArray, List.all_eq_true]
        intro v hv
        simp only [vb, List.mem_map] at hv
        obtain ⟨n, _, rfl⟩ := hv
        rfl
      have hz6 := b0.row (vb (l.take 6))
      unfold Blk at b0 b1 hz6
      generalize hcs : (vb (l.take 6)).toArray = cs at *
      go_wp2_with (first | refine wpList_load_row rfl _ _ rfl _ rfl _ cs _ _ b1 Try.underlying43 rfl hs ?_ | refine wpList_store_row rfl _ _ _ rfl _ cs rfl rfl _ _ b0 hs hold h1c ?_)
      exact bodyPost_ret (v := .agg cs) (results_cell_row rfl _ _ _ _ cs _ _ rfl hz6 Try.underlying43 rfl hs) rfl ⟨by rw [hcs], hkp.setRow (fun h => by omega) _⟩
/-- what holds of the slots of the region in which both addresses are read -/
def rdecS (H : Nat) (l A B : List UInt8) (x : Fr) : Nat → (Nat → Bool) → World → Value → Prop
  | 0, _, _, v => v = .string (bs l)
  | 1, _, _, v => v = .string (bs A)
  | 2, _, _, v => v = .agg (vb A).toArray
  | 3, _, _, v => v = .string (bs l)
  | 4, _, _, v => v = .string (bs B)
  | 5, _, _, v => v = .agg (vb B).toArray
  | 6, _, _, v => v = .agg (frC x).toArray
  | 7, f, w, v => ∃ g, v = .pointer (some ⟨g, 0, none⟩) ∧ H ≤ g ∧ Blk w g 56 (if f 8 then frC x else frC Fr.zero)
  | _, _, _, _ => True
def rdecW (w0 : World) (z : Nat) (f : Nat → Bool) (w : World) : Prop := Kept noB w0 w ∧ Blk w z 56 (frC Fr.zero) ∧ (f 8 = true → f 7 = true)
theorem rdecW_kept {w0 w w' : World} {z : Nat} {f : Nat → Bool} {i : Nat} (hi : i ≠ 8) (h : rdecW w0 z f w) (hk : Kept noB w w') : rdecW w0 z (fun j => decide (j = i) || f j) w' := by
  obtain ⟨a, b, c⟩ := h
  refine ⟨a.no hk, b.kept hk (fun e => e), fun h => ?_⟩
  simp only [show decide (8 = i) = false by simp [Ne.symm hi], Bool.false_or] at h
  simp [c h]
theorem rdecS_kept {H : Nat} {l A B : List UInt8} {x : Fr} {f : Nat → Bool} {w w' : World} {i : Nat} (hi : i ≠ 8) (hk : Kept noB w w') (k : Nat) (v : Value)
    (h : rdecS H l A B x k f w v) : rdecS H l A B x k (fun j => decide (j = i) || f j) w' v := by
  have e8 : (decide (8 = i) || f 8) = f 8 := by simp [Ne.symm hi]
  match k, h with
  | 0, h => exact h
  | 1, h => exact h
  | 2, h => exact h
  | 3, h => exact h
  | 4, h => exact h
  | 5, h => exact h
  | 6, h => exact h
  | 7, h =>
    obtain ⟨g, e, hg, hb⟩ := h
    refine ⟨g, e, hg, ?_⟩
    simp only [e8]
    exact hb.kept hk (fun e => e)
  | k + 8, h => exact h
def rdecD : List (Nat × Nat) := [(0, 15), (1, 16), (2, 17), (3, 18), (4, 19), (5, 20), (6, 21), (7, 4)]
theorem rfrSize : (Try.prog.info? 56).map (·.size) = some 18 := by kernel_rfl
theorem rrun_build2 (a0 a1 a2 a3 a4 a5 b0 b1 b2 b3 b4 b5 : UInt8) (w : World) : (Instr.build 56 #[(0, .agg (vb [a0, a1, a2, a3, a4, a5]).toArray), (1, .agg (vb [b0, b1, b2, b3, b4, b5]).toArray)]).run Try.prog w = .ok (.agg (frC (frHalf a0 a1 a2 a3 a4 a5 b0 b1 b2 b3 b4 b5)).toArray) w := by
  kernel_rfl
theorem rrun_allocF (w : World) : (Instr.alloc 56 true (.tuple #[])).run Try.prog w = .ok (.pointer (some ⟨w.heap.size, 0, none⟩)) (w.alloc (.cells (frC Fr.zero).toArray 56)) := by
  kernel_rfl
theorem rwpList_build_zero {ops : Array Oper} {rest : List Oper} {o : Oper} {a : Act} {w : World} {Q : Exit → Act → World → Prop} (hgd : o.guard = none) (ho : o.op = .build 56 #[])
    (h : wpList Try.prog ops Q rest (a.put o.dst (.agg (frC Fr.zero).toArray)) w) : wpList Try.prog ops Q (o :: rest) a w :=
  wpList_plain hgd fun _ hK => by
    have hb : (Instr.build 56 #[]).run Try.prog w = .ok (.agg (frC Fr.zero).toArray) w := by kernel_rfl
    have hr : (execOp a.eval o).run Try.prog w = .ok (.value (.agg (frC Fr.zero).toArray)) w := by
      unfold execOp
      rw [ho]
      simp only [List.map_toArray, List.map_nil]
      exact run_val hb
    exact wp_value hr (hK _ _ h)
end Go.Proofs.Ytclnginkplhlhaa
