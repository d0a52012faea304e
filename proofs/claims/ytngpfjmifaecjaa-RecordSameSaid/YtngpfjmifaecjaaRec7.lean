/- girderlaw14.Made: what it makes of plain data, and the words of its walk. (Printed by wip/mkrec7.py.) -/
import Derived.Test.YtngpfjmifaecjaaRec6
import Derived.Test.YtngpfjmifaecjaaAppReg
namespace Go.Proofs.Ytngpfjmifaecjaa
open Go.RowKit
/-- plain data: the head's cells, the lists' rows, the counts' cells -/
structure Inp where
  head : List Value
  ports : List (List Value)
  vlans : List (List Value)
  stat : List (List Value)
  fdb : List (List Value)
  cnt : List Value
def ksH : List Leaf := [.i .u64, .i .i64, .i .i64, .i .i64, .i .i64, .i .i64, .i .i64]
def ks3 : List Leaf := [.i .u16, .i .u16, .i .u16]
def ks4 : List Leaf := [.i .u16, .i .u16, .i .u16, .i .u16]
def u16s (n : Nat) (rows : List (List Value)) : Prop := ∀ r ∈ rows, ∀ j, j < n → 0 ≤ intAt r j ∧ intAt r j < 65536
structure Inp.ok (x : Inp) : Prop where
  head : fits ksH x.head
  cnt : fits ksN x.cnt
  ports : fitsAll ksT x.ports
  vlans : fitsAll ks3 x.vlans
  stat : fitsAll ks3 x.stat
  fdb : fitsAll ks4 x.fdb
  v16 : u16s 3 x.vlans
  s16 : u16s 3 x.stat
  f16 : u16s 4 x.fdb
  l1 : x.ports.length ≤ maxLen
  l2 : x.vlans.length ≤ maxLen
  l3 : x.stat.length ≤ maxLen
  l4 : x.fdb.length ≤ maxLen
def inpC (x : Inp) (P V S F : Value) : List Value := x.head ++ (P :: V :: S :: F :: x.cnt)
structure InpAt (w : World) (x : Inp) (P V S F : Value) : Prop where
  ports : ∃ A c, P = .slice A x.ports.length c ∧ RowsAt w 21 A x.ports
  vlans : ∃ A c, V = .slice A x.vlans.length c ∧ RowsAt w 3 A x.vlans
  stat : ∃ A c, S = .slice A x.stat.length c ∧ RowsAt w 3 A x.stat
  fdb : ∃ A c, F = .slice A x.fdb.length c ∧ RowsAt w 4 A x.fdb
theorem InpAt.kept {w w' : World} {x : Inp} {P V S F : Value} (h : InpAt w x P V S F) (hk : Kept noB w w') : InpAt w' x P V S F := by
  obtain ⟨⟨A1, c1, h1, q1⟩, ⟨A2, c2, h2, q2⟩, ⟨A3, c3, h3, q3⟩, ⟨A4, c4, h4, q4⟩⟩ := h
  exact ⟨⟨A1, c1, h1, q1.kept hk⟩, ⟨A2, c2, h2, q2.kept hk⟩, ⟨A3, c3, h3, q3.kept hk⟩, ⟨A4, c4, h4, q4.kept hk⟩⟩
def keyC (a n : Int) : List Value := .int .u16 a :: macC n
def vlP (r : List Value) : List Value := [.int .u16 (intAt r 0), .int .u32 (intAt r 1), .int .u32 (intAt r 2)]
def st3 (a n c : Int) : List Value := keyC a n ++ [.int .u32 c]
def fd4 (a n c d : Int) : List Value := keyC a n ++ [.int .i64 c, .int .i64 d]
def stP (r : List Value) : List Value := st3 (intAt r 0) (intAt r 1) (intAt r 2)
def fdP (r : List Value) : List Value := fd4 (intAt r 0) (intAt r 1) (intAt r 2) (intAt r 3)
theorem fits_app {ks ls : List Leaf} : ∀ {xs ys : List Value}, fits ks xs → fits ls ys → fits (ks ++ ls) (xs ++ ys) := by
  induction ks with
  | nil => intro xs ys h h'; match xs, h with | [], _ => exact h'
  | cons k ks ih => intro xs ys h h'; match xs, h with | x :: xs, h => exact ⟨h.1, ih h.2 h'⟩
theorem macC_fits (n : Int) : fits [.i .u8, .i .u8, .i .u8, .i .u8, .i .u8, .i .u8] (macC n) := by
  have hl := beU_length n.toNat 6
  unfold macC
  generalize beU n.toNat 6 = L at *
  match L, hl with
  | [a, b, c, d, e, f], _ => exact ⟨⟨_, rfl⟩, ⟨_, rfl⟩, ⟨_, rfl⟩, ⟨_, rfl⟩, ⟨_, rfl⟩, ⟨_, rfl⟩, trivial⟩
theorem keyC_fits (a n : Int) : fits [.i .u16, .i .u8, .i .u8, .i .u8, .i .u8, .i .u8, .i .u8] (keyC a n) := ⟨⟨_, rfl⟩, macC_fits n⟩
theorem vlP_fits (r : List Value) : fits ksV (vlP r) := ⟨⟨_, rfl⟩, ⟨_, rfl⟩, ⟨_, rfl⟩, trivial⟩
theorem stP_fits (r : List Value) : fits ksS (stP r) := fits_app (keyC_fits _ _) (ls := [.i .u32]) ⟨⟨_, rfl⟩, trivial⟩
theorem fdP_fits (r : List Value) : fits ksF (fdP r) := fits_app (keyC_fits _ _) (ls := [.i .i64, .i .i64]) ⟨⟨_, rfl⟩, ⟨_, rfl⟩, trivial⟩
theorem run_buildKey (a n : Int) (w : World) : (Instr.build 79 #[(0, .int .u16 a), (1, .agg (macC n).toArray)]).run Try.prog w = .ok (.agg (keyC a n).toArray) w := by kernel_rfl
theorem run_buildSt (a n c : Int) (w : World) : (Instr.build 81 #[(0, .agg (keyC a n).toArray), (1, .int .u32 c)]).run Try.prog w = .ok (.agg (st3 a n c).toArray) w := by kernel_rfl
theorem run_buildFd (a n c d : Int) (w : World) : (Instr.build 85 #[(0, .agg (keyC a n).toArray), (1, .int .i64 c), (2, .int .i64 d)]).run Try.prog w = .ok (.agg (fd4 a n c d).toArray) w := by kernel_rfl
theorem run_bsP (x : List Value) (w : World) : (Instr.buildSlice 57 1 #[(0, .agg (toldP x).toArray)]).run Try.prog w = .ok (.slice (some ⟨w.heap.size, 0, none⟩) 1 1) (w.alloc (.cells (toldP x).toArray 72)) := by kernel_rfl
theorem run_bsV (x : List Value) (w : World) : (Instr.buildSlice 58 1 #[(0, .agg (vlP x).toArray)]).run Try.prog w = .ok (.slice (some ⟨w.heap.size, 0, none⟩) 1 1) (w.alloc (.cells (vlP x).toArray 75)) := by kernel_rfl
theorem run_bsS (x : List Value) (w : World) : (Instr.buildSlice 59 1 #[(0, .agg (stP x).toArray)]).run Try.prog w = .ok (.slice (some ⟨w.heap.size, 0, none⟩) 1 1) (w.alloc (.cells (stP x).toArray 81)) := by kernel_rfl
theorem run_bsF (x : List Value) (w : World) : (Instr.buildSlice 60 1 #[(0, .agg (fdP x).toArray)]).run Try.prog w = .ok (.slice (some ⟨w.heap.size, 0, none⟩) 1 1) (w.alloc (.cells (fdP x).toArray 85)) := by kernel_rfl
/-- what it makes, j ports, k VLANs, l laid entries, m learnt ones -/
def madeN (x : Inp) (j k l m : Nat) : Rec := { cfg := x.head.take 6, ports := (x.ports.take j).map toldP, vlans := (x.vlans.take k).map vlP, stat := (x.stat.take l).map stP, fdb := (x.fdb.take m).map fdP, cnt := x.cnt, beat := intAt x.head 6 }
def made (x : Inp) : Rec := madeN x 16 16 16 64
theorem fits_take {ks ls : List Leaf} {xs : List Value} (h : fits (ks ++ ls) xs) : fits ks (xs.take ks.length) := by
  obtain ⟨a, b, rfl, ha, _⟩ := fits_append h
  rw [← fits_length ha, List.take_left]
  exact ha
theorem madeN_ok {x : Inp} (h : x.ok) (j k l m : Nat) (hj : j ≤ 1000) (hk : k ≤ 1000) (hl : l ≤ 1000) (hm : m ≤ 1000) : (madeN x j k l m).ok := by
  refine ⟨fits_take (ks := ksC) (ls := [.i .i64]) h.head, h.cnt, ?_, ?_, ?_, ?_, ?_, ?_, ?_, ?_⟩
  · intro r hr; obtain ⟨p, _, rfl⟩ := List.mem_map.1 hr; exact toldP_fits p
  · intro r hr; obtain ⟨p, _, rfl⟩ := List.mem_map.1 hr; exact vlP_fits p
  · intro r hr; obtain ⟨p, _, rfl⟩ := List.mem_map.1 hr; exact stP_fits p
  · intro r hr; obtain ⟨p, _, rfl⟩ := List.mem_map.1 hr; exact fdP_fits p
  all_goals simp [madeN]; omega
/-- a state under way: its block, its rows, the argument's block, the result's -/
structure MadeAt (w : World) (xc : List Value) (B X : Nat) (r : Rec) (P V S F : Value) (wr : World) : Prop where
  blk : Blk wr X 63 (recC r P V S F)
  own : RecOwn B wr r P V S F
  arg : Blk wr B 53 xc
  res : Blk wr (B + 1) 63 zeroR
  ne : B + 1 < X
  kept : Kept noB w wr
theorem apK_ne {X : Nat} {v : Value} {g : Nat} (h1 : g ≠ X) (h2 : v.ownBlock ≠ some g) : ¬ apK X v g := fun e => by
  rcases e with e | e
  · exact h1 e
  · exact h2 e
theorem owns_keptA {w w' : World} {b X : Nat} {T : TypeId} {k n : Nat} {v u : Value} {xs : List Value} (h : w.ownsRow b T k v n xs) (hk : Kept (apK X u) w w') (hX : v.ownBlock ≠ some X) (hu : ∀ g, v.ownBlock = some g → u.ownBlock ≠ some g) : w'.ownsRow b T k v n xs := by
  rcases h with ⟨h1, h2⟩
  refine ⟨h1, ?_⟩
  rcases h2 with h2 | ⟨g, cap, cur, hv, hb, hg, h3⟩
  · exact .inl h2
  · have e : v.ownBlock = some g := by rw [hv]; rfl
    refine .inr ⟨g, cap, cur, hv, hb, ?_, h3⟩
    rw [hk.block g (Array.getElem?_eq_some_iff.1 hg).1 (apK_ne (fun e' => hX (by rw [e, e'])) (hu g e))]
    exact hg
def mdPD : List (Nat × Nat) := [(0, 43), (1, 44), (2, 45), (3, 46), (4, 47), (5, 48), (6, 49), (7, 50), (8, 51), (9, 52), (10, 53)]
def mdPV (p : List Value) (B X g off c k n : Nat) (v : Value) : Nat → Option Value
  | 0 => some (.pointer (some ⟨X, 6, none⟩))
  | 1 => some (v)
  | 2 => some (.pointer (some ⟨B, 7, none⟩))
  | 3 => some (.slice (some ⟨g, off, none⟩) n c)
  | 4 => some (.int .i64 (k : Int))
  | 5 => some (.pointer (some ⟨g, off + k * 21, none⟩))
  | 6 => some (.agg p.toArray)
  | 7 => some (.agg (toldP p).toArray)
  | 10 => some (.pointer (some ⟨X, 6, none⟩))
  | _ => none
def mdVD : List (Nat × Nat) := [(0, 65), (1, 66), (2, 67), (3, 68), (4, 69), (5, 70), (6, 71), (7, 72), (8, 73), (9, 74), (10, 75), (11, 76), (12, 77), (13, 78), (14, 79), (15, 80), (16, 81), (17, 82), (18, 83), (19, 84), (20, 85), (21, 86), (22, 87), (23, 88), (24, 89), (25, 90)]
def mdVV (p : List Value) (B X g off c k n : Nat) (v : Value) : Nat → Option Value
  | 0 => some (.pointer (some ⟨X, 7, none⟩))
  | 1 => some (v)
  | 2 => some (.pointer (some ⟨B, 8, none⟩))
  | 3 => some (.slice (some ⟨g, off, none⟩) n c)
  | 4 => some (.int .i64 (k : Int))
  | 5 => some (.pointer (some ⟨g, off + k * 3, none⟩))
  | 6 => some (.pointer (some ⟨g, off + k * 3, none⟩))
  | 7 => some (.int .u16 (intAt p 0))
  | 8 => some (.pointer (some ⟨B, 8, none⟩))
  | 9 => some (.slice (some ⟨g, off, none⟩) n c)
  | 10 => some (.int .i64 (k : Int))
  | 11 => some (.pointer (some ⟨g, off + k * 3, none⟩))
  | 12 => some (.pointer (some ⟨g, off + k * 3 + 1, none⟩))
  | 13 => some (.int .u16 (intAt p 1))
  | 14 => some (.int .u32 (intAt p 1))
  | 15 => some (.pointer (some ⟨B, 8, none⟩))
  | 16 => some (.slice (some ⟨g, off, none⟩) n c)
  | 17 => some (.int .i64 (k : Int))
  | 18 => some (.pointer (some ⟨g, off + k * 3, none⟩))
  | 19 => some (.pointer (some ⟨g, off + k * 3 + 2, none⟩))
  | 20 => some (.int .u16 (intAt p 2))
  | 21 => some (.int .u32 (intAt p 2))
  | 22 => some (.agg (vlP p).toArray)
  | 25 => some (.pointer (some ⟨X, 7, none⟩))
  | _ => none
def mdSD : List (Nat × Nat) := [(0, 102), (1, 103), (2, 104), (3, 105), (4, 106), (5, 107), (6, 108), (7, 109), (8, 110), (9, 111), (10, 112), (11, 113), (12, 114), (13, 115), (14, 116), (15, 117), (16, 118), (17, 119), (18, 120), (19, 121), (20, 122), (21, 123), (22, 124), (23, 125), (24, 126), (25, 127), (26, 128), (27, 129)]
def mdSV (p : List Value) (B X g off c k n : Nat) (v : Value) : Nat → Option Value
  | 0 => some (.pointer (some ⟨X, 8, none⟩))
  | 1 => some (v)
  | 2 => some (.pointer (some ⟨B, 9, none⟩))
  | 3 => some (.slice (some ⟨g, off, none⟩) n c)
  | 4 => some (.int .i64 (k : Int))
  | 5 => some (.pointer (some ⟨g, off + k * 3, none⟩))
  | 6 => some (.pointer (some ⟨g, off + k * 3, none⟩))
  | 7 => some (.int .u16 (intAt p 0))
  | 8 => some (.pointer (some ⟨B, 9, none⟩))
  | 9 => some (.slice (some ⟨g, off, none⟩) n c)
  | 10 => some (.int .i64 (k : Int))
  | 11 => some (.pointer (some ⟨g, off + k * 3, none⟩))
  | 12 => some (.pointer (some ⟨g, off + k * 3 + 1, none⟩))
  | 13 => some (.int .u16 (intAt p 1))
  | 14 => some (.int .u64 (intAt p 1))
  | 15 => some (.agg (macC (intAt p 1)).toArray)
  | 16 => some (.agg (keyC (intAt p 0) (intAt p 1)).toArray)
  | 17 => some (.pointer (some ⟨B, 9, none⟩))
  | 18 => some (.slice (some ⟨g, off, none⟩) n c)
  | 19 => some (.int .i64 (k : Int))
  | 20 => some (.pointer (some ⟨g, off + k * 3, none⟩))
  | 21 => some (.pointer (some ⟨g, off + k * 3 + 2, none⟩))
  | 22 => some (.int .u16 (intAt p 2))
  | 23 => some (.int .u32 (intAt p 2))
  | 24 => some (.agg (stP p).toArray)
  | 27 => some (.pointer (some ⟨X, 8, none⟩))
  | _ => none
def mdFD : List (Nat × Nat) := [(0, 141), (1, 142), (2, 143), (3, 144), (4, 145), (5, 146), (6, 147), (7, 148), (8, 149), (9, 150), (10, 151), (11, 152), (12, 153), (13, 154), (14, 155), (15, 156), (16, 157), (17, 158), (18, 159), (19, 160), (20, 161), (21, 162), (22, 163), (23, 164), (24, 165), (25, 166), (26, 167), (27, 168), (28, 169), (29, 170), (30, 171), (31, 172), (32, 173), (33, 174), (34, 175)]
def mdFV (p : List Value) (B X g off c k n : Nat) (v : Value) : Nat → Option Value
  | 0 => some (.pointer (some ⟨X, 9, none⟩))
  | 1 => some (v)
  | 2 => some (.pointer (some ⟨B, 10, none⟩))
  | 3 => some (.slice (some ⟨g, off, none⟩) n c)
  | 4 => some (.int .i64 (k : Int))
  | 5 => some (.pointer (some ⟨g, off + k * 4, none⟩))
  | 6 => some (.pointer (some ⟨g, off + k * 4, none⟩))
  | 7 => some (.int .u16 (intAt p 0))
  | 8 => some (.pointer (some ⟨B, 10, none⟩))
  | 9 => some (.slice (some ⟨g, off, none⟩) n c)
  | 10 => some (.int .i64 (k : Int))
  | 11 => some (.pointer (some ⟨g, off + k * 4, none⟩))
  | 12 => some (.pointer (some ⟨g, off + k * 4 + 1, none⟩))
  | 13 => some (.int .u16 (intAt p 1))
  | 14 => some (.int .u64 (intAt p 1))
  | 15 => some (.agg (macC (intAt p 1)).toArray)
  | 16 => some (.agg (keyC (intAt p 0) (intAt p 1)).toArray)
  | 17 => some (.pointer (some ⟨B, 10, none⟩))
  | 18 => some (.slice (some ⟨g, off, none⟩) n c)
  | 19 => some (.int .i64 (k : Int))
  | 20 => some (.pointer (some ⟨g, off + k * 4, none⟩))
  | 21 => some (.pointer (some ⟨g, off + k * 4 + 2, none⟩))
  | 22 => some (.int .u16 (intAt p 2))
  | 23 => some (.int .i64 (intAt p 2))
  | 24 => some (.pointer (some ⟨B, 10, none⟩))
  | 25 => some (.slice (some ⟨g, off, none⟩) n c)
  | 26 => some (.int .i64 (k : Int))
  | 27 => some (.pointer (some ⟨g, off + k * 4, none⟩))
  | 28 => some (.pointer (some ⟨g, off + k * 4 + 3, none⟩))
  | 29 => some (.int .u16 (intAt p 3))
  | 30 => some (.int .i64 (intAt p 3))
  | 31 => some (.agg (fdP p).toArray)
  | 34 => some (.pointer (some ⟨X, 9, none⟩))
  | _ => none
end Go.Proofs.Ytngpfjmifaecjaa
