/- Layer 7: any set with any port, without it; how many it has, which ones, rising; whether it is within another one. Condition: the numbers are below 2^32, the port is an int. -/
import Derived.Test.YtngpfjmifaecjaaLaw07c
namespace Go.Proofs.Ytngpfjmifaecjaa
open Go.RowKit Go.Shelf
attribute [local go_sem] Oper.semAt_some
attribute [local irreducible] Go.wpQuiet

/-- the last port that came, 0: none -/
def lastV (pre : List Nat) : Int := match pre.getLast? with
  | none => 0
  | some x => (x % 16 : Nat) + 1
theorem lastV_snoc (pre : List Nat) (x : Nat) : lastV (pre ++ [x]) = (x % 16 : Nat) + 1 := by simp [lastV]
theorem lastV_nil : lastV [] = 0 := rfl
theorem pts_mem (s k x : Nat) (h : x ∈ pts s k) : x < k ∧ hasB s ((x : Int) + 1) = true := by
  induction k with
  | zero => simp [pts] at h
  | succ k ih =>
    rw [pts] at h
    split at h
    · rename_i hh
      rcases List.mem_append.1 h with h | h
      · have := ih h; exact ⟨by omega, this.2⟩
      · simp at h; subst h; exact ⟨by omega, hh⟩
    · have := ih h; exact ⟨by omega, this.2⟩
/-- what has come is rising, and in the set -/
theorem pts_good (s : Nat) (k : Nat) (hk : k ≤ 16) (p : List Nat) (x : Nat) (h : pts s k = p ++ [x]) : lastV p < ((x % 16 : Nat) : Int) + 1 ∧ hasB s (((x % 16 : Nat) : Int) + 1) = true := by
  induction k with
  | zero => simp [pts] at h
  | succ k ih =>
    rw [pts] at h
    split at h
    · rename_i hh
      have e := List.append_inj' h rfl
      obtain ⟨rfl, e2⟩ := e
      simp at e2
      subst e2
      rw [show k % 16 = k by omega]
      refine ⟨?_, hh⟩
      rw [lastV]
      split
      · omega
      · rename_i y hy
        have := pts_mem s k y (List.mem_of_getLast? hy)
        omega
    · exact ih (by omega) h
/-- how many of -1, 0, .. are in a set; are those in another one too? -/
def cQ (s : Nat) : Nat → Nat
  | 0 => 0
  | k + 1 => cQ s k + (hasB s ((k : Int) - 1)).toNat
def wQ (s t : Nat) : Nat → Bool
  | 0 => true
  | k + 1 => wQ s t k && (!hasB s ((k : Int) - 1) || hasB t ((k : Int) - 1))
theorem hasB_low (s : Nat) (p : Int) (h : p < 1 ∨ 16 < p) : hasB s p = false := by
  rw [hasB, show isPort p = false by simp [isPort]; omega]
  rfl
theorem cQ_two (s n : Nat) : cQ s (n + 2) = cntN s n := by
  induction n with
  | zero => simp [cQ, cntN, hasB_low]
  | succ n ih => rw [show n + 1 + 2 = (n + 2) + 1 by omega, cQ, ih, cntN, show ((n + 2 : Nat) : Int) - 1 = (n : Int) + 1 by omega]
theorem cntN_more (s n : Nat) : cntN s (16 + n) = cntN s 16 := by
  induction n with
  | zero => rfl
  | succ n ih => rw [← Nat.add_assoc, cntN, ih, hasB_low _ _ (by omega)]; rfl
theorem cQ_all (s : Nat) : cQ s 42 = cntN s 16 := by rw [show 42 = 40 + 2 from rfl, cQ_two, show 40 = 16 + 24 from rfl, cntN_more]
theorem wQ_iff (s t n : Nat) : wQ s t n = true ↔ ∀ k : Nat, k < n → hasB s ((k : Int) - 1) = true → hasB t ((k : Int) - 1) = true := by
  induction n with
  | zero => simp [wQ]
  | succ n ih =>
    rw [wQ, Bool.and_eq_true, ih]
    constructor
    · rintro ⟨h1, h2⟩ k hk hs
      by_cases e : k = n
      · subst e; rw [hs] at h2; simpa using h2
      · exact h1 k (by omega) hs
    · intro h
      refine ⟨fun k hk => h k (by omega), ?_⟩
      have := h n (by omega)
      cases hs : hasB s ((n : Int) - 1)
      · rfl
      · rw [this hs]; rfl
theorem wQ_all (s t : Nat) (ht : t < 4294967296) : wQ s t 42 = inP s t := by
  rw [Bool.eq_iff_iff, wQ_iff, inP_iff s t ht, decide_eq_true_iff]
  constructor
  · intro h n hn hs
    have := h (n + 2) (by omega)
    rw [show ((n + 2 : Nat) : Int) - 1 = (n : Int) + 1 by omega] at this
    exact this hs
  · intro h k hk hs
    by_cases hp : ((k : Int) - 1 < 1 ∨ 16 < (k : Int) - 1)
    · rw [hasB_low _ _ hp] at hs; cases hs
    · have := h (k - 2) (by omega)
      rw [show ((k - 2 : Nat) : Int) + 1 = (k : Int) - 1 by omega] at this
      exact this hs
theorem lastV_bounds (pre : List Nat) : 0 ≤ lastV pre ∧ lastV pre ≤ 16 := by
  rw [lastV]
  split <;> omega
theorem cQ_le (s k : Nat) : cQ s k ≤ k := by
  induction k with
  | zero => exact Nat.le_refl _
  | succ k ih =>
    have : (hasB s ((k : Int) - 1)).toNat ≤ 1 := Bool.toNat_le _
    show cQ s k + _ ≤ k + 1
    omega
theorem holdCases (s : Nat) (q p : Int) :
    (hasB s q = true ∧ (hasB s q || (decide (q = p) && isPort p)) = true ∧ (hasB s q && decide (q ≠ p)) = false ∧ q = p ∧ 1 ≤ p ∧ p ≤ 16) ∨
    (hasB s q = true ∧ (hasB s q || (decide (q = p) && isPort p)) = true ∧ (hasB s q && decide (q ≠ p)) = true ∧ ¬ q = p) ∨
    (hasB s q = false ∧ (hasB s q || (decide (q = p) && isPort p)) = true ∧ (hasB s q && decide (q ≠ p)) = false ∧ q = p ∧ 1 ≤ p ∧ p ≤ 16) ∨
    (hasB s q = false ∧ (hasB s q || (decide (q = p) && isPort p)) = false ∧ (hasB s q && decide (q ≠ p)) = false ∧ q = p ∧ ¬ 1 ≤ p) ∨
    (hasB s q = false ∧ (hasB s q || (decide (q = p) && isPort p)) = false ∧ (hasB s q && decide (q ≠ p)) = false ∧ q = p ∧ 1 ≤ p ∧ ¬ p ≤ 16) ∨
    (hasB s q = false ∧ (hasB s q || (decide (q = p) && isPort p)) = false ∧ (hasB s q && decide (q ≠ p)) = false ∧ ¬ q = p) := by
  by_cases e : q = p
  · subst e
    by_cases h1 : q < 1
    · have hb := hasB_low s q (.inl h1)
      right; right; right; left
      exact ⟨hb, by simp [hb, isPort]; omega, by simp, rfl, by omega⟩
    · by_cases h2 : 16 < q
      · have hb := hasB_low s q (.inr h2)
        right; right; right; right; left
        exact ⟨hb, by simp [hb, isPort]; omega, by simp, rfl, by omega, by omega⟩
      · have hp : isPort q = true := by simp [isPort]; omega
        cases hb : hasB s q
        · right; right; left
          exact ⟨rfl, by simp [hp], by simp, rfl, by omega, by omega⟩
        · left
          exact ⟨rfl, by simp, by simp, rfl, by omega, by omega⟩
  · cases hb : hasB s q
    · right; right; right; right; right
      exact ⟨rfl, by simp [e], by simp, e⟩
    · right; left
      exact ⟨rfl, by simp, by simp [e], e⟩
theorem one_far {W : World} {b n : Nat} {u : Value} (h : b ≠ n) : (W.setCell ⟨n, 0, none⟩ u).cell? ⟨b, 0, none⟩ = W.cell? ⟨b, 0, none⟩ :=
  World.cell?_of_block (a := ⟨b, 0, none⟩) (Below.heap_setCell W ⟨n, 0, none⟩ u b h)
theorem two_far {W : World} {b n l : Nat} {u v : Value} (h1 : b ≠ n) (h2 : b ≠ l) : ((W.setCell ⟨l, 0, none⟩ u).setCell ⟨n, 0, none⟩ v).cell? ⟨b, 0, none⟩ = W.cell? ⟨b, 0, none⟩ := (one_far h1).trans (one_far h2)
set_option maxRecDepth 100000 in
set_option maxHeartbeats 8000000 in
theorem portsHold_walk (s t : Nat) (p : Int) (w : World) (hs : s < 4294967296) (ht : t < 4294967296) (hp : -9223372036854775808 ≤ p ∧ p ≤ 9223372036854775807) :
    Calls Try.prog 3 #[.int .u32 (s : Int), .int .u32 (t : Int), .int .i64 p] w fun e w' => e = .returned (.bool true) ∧ Kept noB w w' := by
  refine (callsIn_wide (n := 4)).1 ?_
  refine callsIn_of_wp_marks Try.func3 rfl trivial ?_ rfl
  simp only [Try.ntmps3, List.size_toArray, List.length_cons, List.length_nil, Nat.reduceAdd, Nat.reduceSub, Array.replicate_succ, Array.replicate_zero, List.push_toArray, List.append_toArray, List.nil_append, List.cons_append]
  refine wpIn_wide.2 ?_
  go_wp2_with fail
  obtain ⟨W0, hW0⟩ : ∃ W0, (w.alloc (Obj.cells #[Value.int IntKind.u32 (s : Int)] 22)).alloc (Obj.cells #[Value.bool false] 4) = W0 := ⟨_, rfl⟩
  have hz0 : W0.heap.size = w.heap.size + 2 := by rw [← hW0]; simp
  have bS : Blk W0 w.heap.size 22 [.int .u32 (s : Int)] := by rw [← hW0]; exact (Blk.new w 22 [.int .u32 (s : Int)]).alloc _
  have bR : Blk W0 (w.heap.size + 1) 4 [.bool false] := by
    have h := Blk.new (w.alloc (Obj.cells #[Value.int IntKind.u32 (s : Int)] 22)) 4 [.bool false]
    rw [← hW0]
    rwa [World.size_alloc] at h
  have hk0 : Kept noB w W0 := by rw [← hW0]; exact ((Kept.refl _ _).alloc _).alloc _
  rw [hW0]
  refine (speaks07 _).mono ?_
  rintro e w1 ⟨rfl, hk1⟩
  replace bS := bS.kept hk1 (fun e => e)
  replace bR := bR.kept hk1 (fun e => e)
  replace hk0 := hk0.no hk1
  have hz1 := hk1.size
  have c1 := bS.cell 0
  go_wp2_with fail
  refine (all_calls s _).mono ?_
  rintro e w2 ⟨rfl, rfl⟩
  go_wp2_with fail
  obtain ⟨W1, hW1⟩ : ∃ W1, ((w1.alloc (Obj.cells #[Value.int IntKind.i64 0] 3)).alloc (Obj.cells #[Value.int IntKind.i64 0] 3)).alloc (Obj.cells #[Value.int IntKind.u32 (s : Int)] 24) = W1 := ⟨_, rfl⟩
  have hsz : W1.heap.size = w1.heap.size + 3 := by rw [← hW1]; simp
  have bN : Blk W1 w1.heap.size 3 [.int .i64 0] := by rw [← hW1]; exact ((Blk.new w1 3 [.int .i64 0]).alloc _).alloc _
  have bL : Blk W1 (w1.heap.size + 1) 3 [.int .i64 0] := by
    have h := Blk.new (w1.alloc (Obj.cells #[Value.int IntKind.i64 0] 3)) 3 [.int .i64 0]
    rw [World.size_alloc] at h
    rw [← hW1]
    exact h.alloc _
  have bI : Blk W1 (w1.heap.size + 1 + 1) 24 [.int .u32 (s : Int)] := by
    have h := Blk.new ((w1.alloc (Obj.cells #[Value.int IntKind.i64 0] 3)).alloc (Obj.cells #[Value.int IntKind.i64 0] 3)) 24 [.int .u32 (s : Int)]
    rw [← hW1]
    rwa [World.size_alloc, World.size_alloc] at h
  have hkA : Kept noB w1 W1 := by rw [← hW1]; exact (((Kept.refl _ _).alloc _).alloc _).alloc _
  replace bS := bS.kept hkA (fun e => e)
  replace bR := bR.kept hkA (fun e => e)
  replace hk0 := hk0.no hkA
  rw [hW1]
  have hij : w.heap.size + 1 < w1.heap.size := by omega
  have hB0 := hk0.below
  refine (wpIn_wide (n := 4)).1 ?_
  refine wpIn_rangeFunc_ownF rfl (by omega) (gf := 47) (lb := #[.pointer (some ⟨w1.heap.size + 1 + 1, 0, none⟩)]) rfl trivial (enters_of Try.func47 (by kernel_rfl) rfl)
    (all_stops 3 (w1.heap.size + 1 + 1) s hs (by omega) W1 (bI.cell 0)) KpC_t (KpC_b (by omega)) (Below.refl _ _) (fun _ => rfl)
    (fun pre W => (W.cell? ⟨w.heap.size, 0, none⟩ = some (.int .u32 (s : Int)) ∧ W.cell? ⟨w1.heap.size, 0, none⟩ = some (.int .i64 pre.length) ∧ W.frozen? ⟨w1.heap.size, 0, none⟩ = false ∧ W.cell? ⟨w1.heap.size + 1, 0, none⟩ = some (.int .i64 (lastV pre)) ∧ W.frozen? ⟨w1.heap.size + 1, 0, none⟩ = false ∧ W.cell? ⟨w.heap.size + 1, 0, none⟩ = some (.bool false) ∧ W.frozen? ⟨w.heap.size + 1, 0, none⟩ = false) ∧ Below w.heap.size w W)
    (fun c pre W => (∃ q x, pre = q ++ [x] ∧ ((x % 16 : Nat) + 1 ≤ lastV q ∨ hasB s (((x % 16 : Nat) : Int) + 1) = false)))
    (OwnFrom.and (Own.from (fun s A B row hs hg hr => ⟨cell_kept hs.1 hg hr, cell_kept hs.2.1 hg hr, (frozen_kept hs.2.1 hg hr).trans hs.2.2.1, cell_kept hs.2.2.2.1 hg hr, (frozen_kept hs.2.2.2.1 hg hr).trans hs.2.2.2.2.1, cell_kept hs.2.2.2.2.2.1 hg hr, (frozen_kept hs.2.2.2.2.2.1 hg hr).trans hs.2.2.2.2.2.2⟩) _) (ownFrom_below (Nat.le_refl _) (by omega)))
    (fun c => ownFrom_pure _ _)
    ⟨⟨bS.cell 0, bN.cell 0, bN.frozen 0, bL.cell 0, bL.frozen 0, bR.cell 0, bR.frozen 0⟩, hB0⟩ ?_ ?_ ?_ ?_ ?_
  rotate_left
  · intro l x W K hK
    gi_wp2
    exact hK
  · rintro l pre x W ⟨⟨cS, cN, fN, cL, fL, cR, fR⟩, hBB⟩ hlen
    have hx : (x % 16 : Nat) < 16 := by omega
    have hlb := lastV_bounds pre
    have hlv := lastV_snoc pre x
    have hq : ∃ q y, pre ++ [x] = q ++ [y] ∧ ((((x % 16 : Nat) : Int) + 1 ≤ lastV pre ∨ hasB s (((x % 16 : Nat) : Int) + 1) = false) → ((y % 16 : Nat) + 1 ≤ lastV q ∨ hasB s (((y % 16 : Nat) : Int) + 1) = false)) := ⟨pre, x, rfl, id⟩
    dsimp only [ptV]
    have hcall := hasR_calls s (((x % 16 : Nat) : Int) + 1) W hs (by omega)
    have HV := Lib.hid hlv
    have HQ := Lib.hid hq
    clear hlv hq
    generalize lastV pre = v at *
    generalize x % 16 = y at *
    by_cases h1 : (y : Int) + 1 ≤ v
    · gi_wp2
      refine ⟨trivial, ?_⟩
      gi_wp2
      obtain ⟨q, z, e, h⟩ := HQ.out
      exact ⟨KeepsOthers.setCell _ _ _, q, z, e, h (.inl h1)⟩
    · cases hh : hasB s ((y : Int) + 1)
      · rw [hh] at hcall
        gi_wp2
        refine ⟨trivial, ?_⟩
        refine (CallsIn.inRound l (callsIn_wide.2 hcall)).mono ?_
        rintro e w3 ⟨rfl, rfl⟩
        gi_wp2
        obtain ⟨q, z, e, h⟩ := HQ.out
        exact ⟨KeepsOthers.setCell _ _ _, q, z, e, h (.inr hh)⟩
      · rw [hh] at hcall
        gi_wp2
        refine ⟨trivial, ?_⟩
        refine (CallsIn.inRound l (callsIn_wide.2 hcall)).mono ?_
        rintro e w3 ⟨rfl, rfl⟩
        gi_wp2
        have n1 : w.heap.size ≠ w1.heap.size := by omega
        have n2 : w.heap.size ≠ w1.heap.size + 1 := by omega
        have n3 : w.heap.size + 1 ≠ w1.heap.size := by omega
        have n4 : w.heap.size + 1 ≠ w1.heap.size + 1 := by omega
        have n5 : w1.heap.size + 1 + 1 ≠ w1.heap.size := by omega
        have n6 : w1.heap.size + 1 + 1 ≠ w1.heap.size + 1 := by omega
        have n7 : w1.heap.size ≠ w1.heap.size + 1 := by omega
        have n8 : w1.heap.size + 1 ≠ w1.heap.size := by omega
        refine ⟨(KeepsOthers.setCell _ _ _).trans (KeepsOthers.setCell _ _ _), two_far n5 n6, ⟨(two_far n1 n2).trans cS, ?_, ?_, ?_, ?_, (two_far n3 n4).trans cR, ?_⟩, ?_⟩
        · rw [World.cell?_setCell_same' _ _ _ (by rw [one_far n7, cN]; rfl)]
          simp
        · rw [World.frozen?_setCell, World.frozen?_setCell]; exact fN
        · rw [one_far n8, World.cell?_setCell_same' _ _ _ (by rw [cL]; rfl), HV.out]
        · rw [World.frozen?_setCell, World.frozen?_setCell]; exact fL
        · rw [World.frozen?_setCell, World.frozen?_setCell]; exact fR
        · exact (hBB.setCell (p := ⟨w1.heap.size + 1, 0, none⟩) (by show w.heap.size ≤ w1.heap.size + 1; omega) _).setCell (p := ⟨w1.heap.size, 0, none⟩) (by show w.heap.size ≤ w1.heap.size; omega) _
  · rintro D xs W hD rfl ⟨⟨cS, cN, fN, cL, fL, cR, fR⟩, hBB⟩ hK
    rw [← cntN_pts] at cN
    have HS := Lib.hid cS
    have HN := Lib.hid cN
    go_wp2_with fail
    go_loopw [10, 13, 14] (fun x c q wr => ∃ k : Nat, k ≤ 42 ∧ q = .int .i64 ((k : Int) - 1) ∧ c = .int .i64 (cQ s k : Nat) ∧ x = .bool (wQ s t k) ∧ Kept noB W wr) (fun _ _ q _ => (41 - intOf q).toNat)
    case atStart => exact ⟨0, by omega, rfl, rfl, rfl, Kept.refl _ _⟩
    case round =>
      obtain ⟨k, hk, rfl, rfl, rfl, hkr⟩ := hrel
      by_cases hk42 : k < 42
      · have hcq : cQ s k ≤ 42 := Nat.le_trans (cQ_le s k) hk
        have HC1 : Hid (cQ s (k + 1) = cQ s k + (hasB s ((k : Int) - 1)).toNat) := rfl
        have HW1 : Hid (wQ s t (k + 1) = (wQ s t k && (!hasB s ((k : Int) - 1) || hasB t ((k : Int) - 1)))) := rfl
        generalize cQ s k = c at *
        generalize wQ s t k = x at *
        have ka := cell_regrown (hkr.cell HS.out (fun e => e))
        have q1 := Calls.qkept (w := wr) (fun w1 _ => (has_calls s ((k : Int) - 1) w1 hs).mono fun e w' ⟨h1, h2⟩ => ⟨h1, h2 ▸ Kept.refl noB w1⟩)
        have q2 := Calls.qkept (w := wr) (fun w1 _ => (hasR_calls s ((k : Int) - 1) w1 hs (by omega)).mono fun e w' ⟨h1, h2⟩ => ⟨h1, h2 ▸ Kept.refl noB w1⟩)
        have q3 := Calls.qkept (w := wr) (fun w1 _ => (with_calls s p w1 hs).mono fun e w' ⟨h1, h2⟩ => ⟨h1, h2 ▸ Kept.refl noB w1⟩)
        have q4 := Calls.qkept (w := wr) (fun w1 _ => (has_calls (withP s p) ((k : Int) - 1) w1 (withP_lt s p hs)).mono fun e w' ⟨h1, h2⟩ => ⟨h1, h2 ▸ Kept.refl noB w1⟩)
        have q5 := Calls.qkept (w := wr) (fun w1 _ => (without_calls s p w1 hs).mono fun e w' ⟨h1, h2⟩ => ⟨h1, h2 ▸ Kept.refl noB w1⟩)
        have q6 := Calls.qkept (w := wr) (fun w1 _ => (has_calls (woutP s p) ((k : Int) - 1) w1 (woutP_lt s p hs)).mono fun e w' ⟨h1, h2⟩ => ⟨h1, h2 ▸ Kept.refl noB w1⟩)
        rw [hasB_with] at q4
        rw [hasB_wout s p _ hs] at q6
        have hl1 := withP_lt s p hs
        have hl2 := woutP_lt s p hs
        have hcs := holdCases s ((k : Int) - 1) p
        have hT := hasR_calls t ((k : Int) - 1)
        have hS2 := hasR_calls s ((k : Int) - 1)
        generalize withP s p = s1 at *
        generalize woutP s p = s2 at *
        rcases hcs with ⟨hh, e4, e6, hqp, p1, p2⟩ | ⟨hh, e4, e6, hqp⟩ | ⟨hh, e4, e6, hqp, p1, p2⟩ | ⟨hh, e4, e6, hqp, p1⟩ | ⟨hh, e4, e6, hqp, p1, p2⟩ | ⟨hh, e4, e6, hqp⟩
        all_goals
          first
          | (have hbne : (((k : Int) - 1) != p) = true := by simp; exact hqp)
          | subst hqp
        all_goals
          try have f0 : decide (1 ≤ (k : Int) - 1) = false := decide_eq_false (by omega)
          try have f1 : decide ((k : Int) - 1 ≤ 16) = false := decide_eq_false (by omega)
        all_goals
          rw [e4] at q4
          rw [e6] at q6
          rw [hh] at q1 q2 HC1 HW1 hS2
          clear e4 e6
          go_wp2_with fail
          refine wp_region_quiet_below (by kernel_rfl) (by kernel_rfl) ?_
          repeat (quiet_step (first | with_reducible exact q1 _ _ | with_reducible exact q2 _ _ | with_reducible exact q3 _ _ | with_reducible exact q4 _ _ | with_reducible exact q5 _ _ | with_reducible exact q6 _ _))
          refine wpQuiet_nil ?_
          intro _ hw'
          obtain ⟨⟨dq, osq⟩, hw''⟩ := hw'
          subst hw''
          have kR := hkr.no (Kept.regrown wr dq osq)
          clear ka q1 q2 q3 q4 q5 q6 hkr
          generalize Sort.grow (redrawn wr dq) osq = w5 at *
          have cs5 := kR.cell HS.out (fun e => e)
          go_wp2_with fail
          refine (hS2 _ hs (by omega)).mono ?_
          rintro e w6 ⟨rfl, rfl⟩
          first
          | (have hx : hasB s ((k : Int) - 1) = false := hh
             go_wp2_with fail
             exact ⟨⟨k + 1, by omega, by rw [show ((k + 1 : Nat) : Int) - 1 = (k : Int) by omega], by rw [HC1.out]; rfl, by rw [HW1.out]; simp, kR⟩, by simp [intOf]; omega⟩)
          | (have hx : hasB s ((k : Int) - 1) = true := hh
             cases x
             · go_wp2_with fail
               exact ⟨⟨k + 1, by omega, by rw [show ((k + 1 : Nat) : Int) - 1 = (k : Int) by omega], by rw [HC1.out]; rfl, by rw [HW1.out]; simp, kR⟩, by simp [intOf]; omega⟩
             · go_wp2_with fail
               refine (hT _ ht (by omega)).mono ?_
               rintro e w6 ⟨rfl, rfl⟩
               go_wp2_with fail
               exact ⟨⟨k + 1, by omega, by rw [show ((k + 1 : Nat) : Int) - 1 = (k : Int) by omega], by rw [HC1.out]; rfl, by rw [HW1.out]; simp, kR⟩, by simp [intOf]; omega⟩)
      · obtain rfl : k = 42 := by omega
        rw [cQ_all, wQ_all s t ht]
        have cN5 := hkr.cell HN.out (fun e => e)
        have cS5 := hkr.cell HS.out (fun e => e)
        have cR5 := hkr.cell cR (fun e => e)
        have cK5 := (hkr.block D (Array.getElem?_eq_some_iff.1 hK).1 (fun e => e)).trans hK
        have hB5 := hBB.trans (hkr.below.mono hBB.size)
        have fR5 : wr.frozen? ⟨w.heap.size + 1, 0, none⟩ = false := by
          have hl : w.heap.size + 1 < W.heap.size := World.block_lt_of_cell? W ⟨w.heap.size + 1, 0, none⟩ cR
          exact (World.frozen?_of_block (a := ⟨w.heap.size + 1, 0, none⟩) (hkr.block _ hl (fun e => e))).trans fR
        have r1 := fun w1 => count_calls s w1 hs
        have r2 := fun w1 => within_calls s t w1 hs ht
        have r3 := fun w1 => has_calls s p w1 hs
        have r4 := fun w1 => hasR_calls s p w1 hs hp
        clear HN HS hkr cN cS cR fR
        generalize cntN s 16 = n at *
        generalize inP s t = y at *
        generalize hasB s p = z at *
        have ne1 : ¬ w1.heap.size = w.heap.size + 1 := by omega
        have ne2 : ¬ w.heap.size = w.heap.size + 1 := by omega
        go_wp2_with fail
        go_region_held3 (fun w' => w'.cell? ⟨w.heap.size, 0, none⟩ = some (.int .u32 (s : Int)) ∧ w'.cell? ⟨w1.heap.size, 0, none⟩ = some (.int .i64 (n : Int))) (first | (go_keep; done) | exact ⟨(one_far (by omega)).trans cS5, (one_far (by omega)).trans cN5⟩)
          (first
           | (go_at_call 18; (with_reducible refine (r1 _).mono ?_); rintro e w' ⟨rfl, d, rfl⟩)
           | (go_at_call 19; (with_reducible refine (r2 _).mono ?_); rintro e w' ⟨rfl, rfl⟩)
           | (go_at_call 15; (with_reducible refine (r3 _).mono ?_); rintro e w' ⟨rfl, rfl⟩)
           | (go_at_call 14; (with_reducible refine (r4 _).mono ?_); rintro e w' ⟨rfl, rfl⟩))
        generalize 1 + d = m
        have v1 : ((wr.drewN m).setCell ⟨w.heap.size + 1, 0, none⟩ (.bool true)).cell? ⟨w.heap.size + 1, 0, none⟩ = some (.bool true) :=
          World.cell?_setCell_same' (wr.drewN m) ⟨w.heap.size + 1, 0, none⟩ (.bool true) (by rw [show (wr.drewN m).cell? ⟨w.heap.size + 1, 0, none⟩ = wr.cell? ⟨w.heap.size + 1, 0, none⟩ from rfl, cR5]; rfl)
        have v2 : ((wr.drewN m).setCell ⟨w.heap.size + 1, 0, none⟩ (.bool true)).heap[D]? = some (.deferred (some [])) :=
          (Below.heap_setCell (wr.drewN m) ⟨w.heap.size + 1, 0, none⟩ (.bool true) D (by show D ≠ w.heap.size + 1; omega)).trans cK5
        have v3 : Kept noB w ((wr.drewN m).setCell ⟨w.heap.size + 1, 0, none⟩ (.bool true)) := ((Kept.of_below hB5).drewN m).setCell (fun h => absurd h (by show ¬ w.heap.size + 1 < w.heap.size; omega)) _
        generalize (wr.drewN m).setCell ⟨w.heap.size + 1, 0, none⟩ (.bool true) = V at *
        go_wp2_with fail
        refine ⟨by simp, .inl ⟨_, _, rfl, run_takeDeferred v2, ?_⟩⟩
        have hc5 := cell_kept v1 (grownBy_putObj' _ D (.deferred none)) (fun r e => by cases e; exact ⟨_, v2, rfl⟩)
        refine ⟨.bool true, ?_, rfl, Kept.of_below (v3.below.trans (belowK_b (w := w) (Nat.le_refl _) V D _ _ (by omega) v2 rfl rfl))⟩
        simp [results, Try.f3, go_sem, hc5]
  · rintro D c pre W hD ⟨k, hk, hp, _⟩ ⟨q, x, hq, h⟩ hK
    have := pts_good s k hk q x (hp.symm.trans hq)
    rcases h with h | h
    · omega
    · rw [this.2] at h; cases h
end Go.Proofs.Ytngpfjmifaecjaa
