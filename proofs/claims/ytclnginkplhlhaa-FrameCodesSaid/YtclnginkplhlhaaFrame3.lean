/- The walks of package girderref04 and of the law's own words. Condition: 'Fr.ok'. -/
import Derived.Test.YtclnginkplhlhaaFrame2
namespace Go.Proofs.Ytclnginkplhlhaa
open Go.RowKit
theorem text_calls (l : List UInt8) (w : World) (h6 : l.length = 6) : Calls Try.prog 39 #[.agg (vb l).toArray] w fun e w' => e = .returned (.string (bs l)) ∧ Kept noB w w' := by
  have hcv := run_string_one
  have k1 : Kept noB w (w.alloc (.cells (vb l).toArray 43)) := (Kept.refl _ _).alloc _
  have bb : Blk (w.alloc (.cells (vb l).toArray 43)) w.heap.size 43 (vb l) := heap_alloc_new w _
  generalize hcs : (vb l).toArray = cs at *
  go_enter Try.func39, Try.ntmps39
  go_wp2_with fail
  go_loopw [3, 4] (fun s i wr => ∃ k : Nat, k ≤ 6 ∧ i = .int .i64 k ∧ s = .string (bs (l.take k)) ∧ Kept noB (w.alloc (.cells cs 43)) wr) (fun _ i _ => 6 - (intOf i).toNat)
  case atStart => exact ⟨0, Nat.zero_le _, rfl, rfl, Kept.refl _ _⟩
  case round =>
    obtain ⟨k, hk, rfl, rfl, hkp⟩ := hrel
    have b2 := bb.kept hkp (fun e => e)
    by_cases hk6 : k < 6
    · have hc := b2.cell k
      rw [vb_get l k (by omega)] at hc
      have hsz : ¬ 9223372036854775807 < (bs (l.take k)).size + (strOfNums [((l[k]'(by omega)).toNat : Int)]).size := by rw [bs_size, strOfNums_size]; simp; omega
      have hnx : bs (l.take k) ++ strOfNums [((l[k]'(by omega)).toNat : Int)] = bs (l.take (k + 1)) := by
        rw [List.take_succ_eq_append_getElem (by omega), ← bs_append]
        congr 1
        exact strOf_vb [l[k]'(by omega)]
      have HN := Lib.hid hnx
      clear hnx
      generalize ((l[k]'(by omega)).toNat : Int) = v at *
      go_wp2_with fail
      refine ⟨⟨k + 1, by omega, by go_num, ?_, hkp.alloc _⟩, by simp [intOf]; omega⟩
      rw [HN.out]
    · obtain rfl : k = 6 := by omega
      go_wp2_with fail
      go_ret
      exact ⟨by rw [List.take_of_length_le (by omega)]; rfl, k1.no hkp⟩
end Go.Proofs.Ytclnginkplhlhaa
