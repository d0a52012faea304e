/- addr.FromInt. Condition: the number is of its kind. -/
import Derived.Test.YtngpfjmifaecjaaRec4
import Derived.Test.YtngpfjmifaecjaaWire
import Derived.Test.YtngpfjmifaecjaaByB
namespace Go.Proofs.Ytngpfjmifaecjaa
open Go.RowKit
theorem run_arrayAt6 (a : Addr) (c : Nat) (w : World) : (Instr.arrayAt 77 (.slice (some a) 6 c)).run Try.prog w = .ok (.pointer (some a)) w := by
  unfold Instr.arrayAt
  rw [Sem.run_bind, run_underlying Try.underlying77 w]
  rfl
theorem macSize : (Try.prog.info? 77).map (·.size) = some 6 := by kernel_rfl
theorem range_of_byB6 {w : World} {g : Nat} {l : List UInt8} (h : ByB w g l) : w.rangeAt g 0 (vb l) := fun j v hv => by
  have hj : j < (vb l).length := (List.getElem?_eq_some_iff.1 hv).1
  rw [Nat.zero_add, Pre.cell h j hj, hv]
/-- an address' cells -/
def macC (n : Int) : List Value := vb (beU n.toNat 6)
theorem macC_len (n : Int) : (macC n).length = 6 := by simp [macC, vb_length, beU_length]
theorem macC_one (n : Int) : ∀ v ∈ macC n, v.oneCell' = true := by
  intro v hv
  simp only [macC, vb, List.mem_map] at hv
  obtain ⟨n, _, rfl⟩ := hv
  rfl
def zero6 : List Value := [.int .u8 0, .int .u8 0, .int .u8 0, .int .u8 0, .int .u8 0, .int .u8 0]
set_option maxRecDepth 100000 in
set_option maxHeartbeats 1000000 in
theorem fromInt_calls (n : Int) (w : World) (h0 : 0 ≤ n) : Calls Try.prog 51 #[.int .u64 n] w fun e w' => e = .returned (.agg (macC n).toArray) ∧ Kept noB w w' := by
  have q := fun w => bytes_in n 6 w h0 (by omega) (by omega)
  have hb := Blk.new w 77 zero6
  have hk : Kept noB w (w.alloc (.cells zero6.toArray 77)) := (Kept.refl _ _).alloc _
  have hl := macC_len n
  have h1 := macC_one n
  have hll : (beU n.toNat 6).length = 6 := beU_length _ _
  unfold macC at hl h1 ⊢
  generalize beU n.toNat 6 = L at *
  go_enter Try.func51, Try.ntmps51
  go_upto_region 1 with (fail)
  change Code.wp _ _ _ _ (w.alloc (.cells zero6.toArray 77))
  generalize w.alloc (.cells zero6.toArray 77) = W0 at *
  go_wp2_with fail
  refine (q _).mono ?_
  rintro e w1 ⟨rfl, hk1⟩
  obtain ⟨c, w2, hrun, hby, hk2⟩ := run_bytes_of L w1
  rw [bs_size, hll] at hrun
  have hr := range_of_byB6 hby
  have hz := (hb.kept hk1 (fun e => e)).kept hk2 (fun e => e)
  have hs : (Try.prog.info? 77).map (·.size) = some (vb L).length := by rw [hl]; exact macSize
  have hs2 : (Try.prog.info? 77).map (·.size) = some (vb L).toArray.size := by rw [List.size_toArray]; exact hs
  have hold : zero6.toArray.size = (vb L).toArray.size := by rw [List.size_toArray, List.size_toArray, hl]; rfl
  have h1c : (vb L).toArray.all (·.oneCell') = true := all_oneCell_toArray h1
  have hres := hz.row (vb L)
  have HRES := Lib.hid hres
  have HK := Lib.hid ((((hk.no hk1).no hk2)).setRow (g := w.heap.size) (fun h => absurd h (Nat.lt_irrefl _)) (vb L).toArray)
  have harr := fun w => run_arrayAt6 ⟨w1.heap.size, 0, none⟩ c w
  clear hres hb hk hk1 hk2 hby q h1 hl hll
  generalize hcs : vb L = cs at *
  have HCS := Lib.hid hcs
  clear hcs
  go_wp2_with (first | (refine wpList_load_mid rfl 77 (.tmp 6) rfl w1.heap.size 0 rfl cs _ (by exact hr) Try.underlying77 rfl hs ?_) | (refine wpList_store_row rfl 77 (.tmp 2) (.tmp 7) rfl w.heap.size cs.toArray rfl rfl _ zero6.toArray (by exact hz) hs2 hold h1c ?_))
  refine bodyPost_ret (v := .agg cs.toArray) (results_cell_row rfl _ _ _ _ _ _ _ rfl HRES.out Try.underlying77 rfl hs2) rfl ?_
  exact ⟨by rw [HCS.out], HK.out⟩
end Go.Proofs.Ytngpfjmifaecjaa
