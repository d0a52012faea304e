/- The walk of 'Set.All': the ports of a set, rising, as an iterator; its maker. Condition: the number is below 2^32. -/
import Derived.Test.YtngpfjmifaecjaaPorts
import Derived.RangeFuncNested
import Derived.RangeFuncBound
import Derived.RangeFuncCalls
import Derived.RangeFuncLeaves
import Derived.Shelf.Abstract
import Derived.Shelf.RegionOpen
import Derived.OwnWalkIn
import Derived.TacticsInMore
import Derived.LoopNIn
import Derived.LoopIn
namespace Go.Proofs.Ytngpfjmifaecjaa
open Go.RowKit Go.Shelf
attribute [local go_sem] Oper.semAt_some

/-- the first k numbers' ports of a set, each less 1 -/
def pts (s : Nat) : Nat → List Nat
  | 0 => []
  | k + 1 => if hasB s ((k : Int) + 1) then pts s k ++ [k] else pts s k
theorem pts_len (s k : Nat) : (pts s k).length ≤ k := by
  induction k with
  | zero => exact Nat.le_refl _
  | succ k ih =>
    rw [pts]
    split
    · simp; omega
    · omega
/-- a port's value as the iterator hands it -/
def ptV (x : Nat) : Value := .int .i64 ((x % 16 : Nat) + 1)
/-- what a round must leave: the iterator's cell -/
def KpC (Bn : Nat) (W W' : World) : Prop := W'.cell? ⟨Bn, 0, none⟩ = W.cell? ⟨Bn, 0, none⟩

theorem iter_in (n l Bn s : Nat) (hs : s < 4294967296) (hn : 1 ≤ n) (J Jx : List Nat → World → Prop)
    (hY : ∀ pre x W, J pre W → pre.length < 16 → YieldAt Fence.wide (n - 1) Try.prog l #[ptV x] W fun e W' =>
      (e = .returned (.bool true) ∧ J (pre ++ [x]) W' ∧ KpC Bn W W') ∨ (e = .returned (.bool false) ∧ Jx (pre ++ [x]) W'))
    (W : World) (hB : W.cell? ⟨Bn, 0, none⟩ = some (.int .u32 (s : Int))) (h0 : J [] W) :
    CallsIn Fence.wide n Try.prog 47 #[.func (.yield l) #[] #[], .pointer (some ⟨Bn, 0, none⟩)] W fun e W' => (∃ v, e = .returned v) ∧
      ((∃ ys, ys = pts s 16 ∧ J ys W') ∨ (∃ pre, (∃ k, k ≤ 16 ∧ pre = pts s k ∧ pre ≠ []) ∧ Jx pre W')) := by
  have hf15 : Fence.wide.fn 15 := trivial
  refine callsIn_of_wp Try.func47 rfl trivial ?_ rfl
  simp only [Try.ntmps47, List.size_toArray, List.length_cons, List.length_nil, Nat.reduceAdd, Nat.reduceSub, Array.replicate_succ, Array.replicate_zero, List.push_toArray, List.append_toArray, List.nil_append, List.cons_append]
  gi_wp2
  gi_loopw [3] (fun p wr => ∃ k : Nat, k ≤ 16 ∧ p = .int .i64 ((k : Int) + 1) ∧ wr.cell? ⟨Bn, 0, none⟩ = some (.int .u32 (s : Int)) ∧ J (pts s k) wr)
    (fun p _ => 17 - (intOf p).toNat)
  case atStart => exact ⟨0, by omega, rfl, hB, h0⟩
  case round =>
    obtain ⟨k, hk, rfl, hc, hJ⟩ := hrel
    by_cases hk16 : k < 16
    · have hm : k % 16 = k := by omega
      cases hh : hasB s ((k : Int) + 1)
      · have hp : pts s (k + 1) = pts s k := by rw [pts, if_neg (by simp [hh])]
        have HP := Lib.hid hp
        clear hp
        have hcall := has_calls s ((k : Int) + 1) wr hs
        rw [hh] at hcall
        gi_wp2
        refine (callsIn_wide.2 hcall).mono ?_
        rintro e w1 ⟨rfl, rfl⟩
        gi_wp2
        refine ⟨fun _ h => (by cases h), ?_⟩
        gi_wp2
        exact ⟨⟨k + 1, by omega, by go_num, hc, by rw [HP.out]; exact hJ⟩, by simp [intOf]; omega⟩
      · have hp : pts s (k + 1) = pts s k ++ [k] := by rw [pts, if_pos hh]
        have HP := Lib.hid hp
        clear hp
        have hcall := has_calls s ((k : Int) + 1) wr hs
        rw [hh] at hcall
        obtain ⟨fn, tmps, assign, body, hy, hR⟩ := hY (pts s k) k wr hJ (by have := pts_len s k; omega)
        rw [ptV, hm] at hy
        gi_wp2
        refine (callsIn_wide.2 hcall).mono ?_
        rintro e w1 ⟨rfl, rfl⟩
        gi_wp2
        refine hR.mono ?_
        rintro e W3 (⟨rfl, hJ3, hk3⟩ | ⟨rfl, hJx3⟩)
        · have hc3 : W3.cell? ⟨Bn, 0, none⟩ = some (.int .u32 (s : Int)) := hk3.trans hc
          gi_wp2
          exact ⟨⟨k + 1, by omega, by go_num, hc3, by rw [HP.out]; exact hJ3⟩, by simp [intOf]; omega⟩
        · gi_wp2
          refine bodyPost_ret (results_none rfl _ _ _) rfl ?_
          exact ⟨⟨_, rfl⟩, .inr ⟨pts s k ++ [k], ⟨k + 1, by omega, HP.out.symm, by simp⟩, hJx3⟩⟩
    · obtain rfl : k = 16 := by omega
      gi_wp2
      go_end0
      exact ⟨⟨_, rfl⟩, .inl ⟨_, rfl, hJ⟩⟩
theorem all_stops (n Bn s : Nat) (hs : s < 4294967296) (hn : 1 ≤ n) (w : World) (hB : w.cell? ⟨Bn, 0, none⟩ = some (.int .u32 (s : Int))) :
    SeqStopsK Fence.wide n Try.prog 47 #[.pointer (some ⟨Bn, 0, none⟩)] (fun x => #[ptV x]) (KpC Bn) (fun xs => xs = pts s 16) (fun pre => ∃ k, k ≤ 16 ∧ pre = pts s k ∧ pre ≠ []) 16 w :=
  fun l J Jx W hW _ _ hY h0 => iter_in n l Bn s hs hn J Jx hY W ((hW.cell (p := ⟨Bn, 0, none⟩) (World.block_lt_of_cell? w _ hB)).trans hB) h0
theorem KpC_t {Bn : Nat} {A B C : World} (h : KpC Bn A B) (k : KpC Bn B C) : KpC Bn A C := Eq.trans k h
theorem KpC_b {Bn : Nat} {w : World} (hn : Bn < w.heap.size) (W : World) (l : Nat) (o o' : Obj) (hl : w.heap.size ≤ l) (_ : W.heap[l]? = some o) (_ : o.isCells = false) (_ : o.isWalk = false) : KpC Bn W (W.putObj l o') :=
  World.cell?_of_block (a := ⟨Bn, 0, none⟩) (World.putObj_heap_other (by show Bn ≠ l; omega))
theorem all_calls (s : Nat) (w : World) : Calls Try.prog 13 #[.int .u32 (s : Int)] w fun e w' => e = .returned (.func (.func 47) #[] #[.pointer (some ⟨w.heap.size, 0, none⟩)]) ∧ w' = w.alloc (.cells #[.int .u32 (s : Int)] 24) := by
  go_enter Try.func13, Try.ntmps13
  go_wp2
  go_ret
  exact ⟨rfl, rfl⟩
end Go.Proofs.Ytngpfjmifaecjaa
