/- Layer 7: a set of any numbers, and walks that are broken off. Condition: the slice lies in memory. -/
import Derived.Test.YtngpfjmifaecjaaLaw07b
namespace Go.Proofs.Ytngpfjmifaecjaa
open Go.RowKit Go.Shelf
attribute [local go_sem] Oper.semAt_some

/-- is a number among the first k of some? -/
def anyE (zs : List Int) (p : Int) : Nat → Bool
  | 0 => false
  | k + 1 => anyE zs p k || decide (zs.getD k 0 = p)
theorem hasB_ofN (zs : List Int) (p : Int) (hp : isPort p = true) (k : Nat) : hasB (ofN zs k) p = anyE zs p k := by
  induction k with
  | zero =>
    show hasB 0 p = false
    rw [hasB, hp, Nat.zero_testBit]
    rfl
  | succ k ih =>
    rw [ofN, hasB_with, ih, anyE]
    congr 1
    by_cases h : zs.getD k 0 = p
    · rw [h, hp]; simp
    · rw [decide_eq_false h, decide_eq_false (fun e => h e.symm)]; rfl
theorem ofN_lt16 (zs : List Int) (k : Nat) : ofN zs k < 65536 := by
  induction k with
  | zero => show 0 < _; omega
  | succ k ih => exact Nat.or_lt_two_pow (n := 16) ih (bitN_lt _)
theorem inP_self (s : Nat) (h : s < 4294967296) : inP s s = true := by
  rw [inP_iff s s h]
  simp
theorem cntN_pts (s k : Nat) : cntN s k = (pts s k).length := by
  induction k with
  | zero => rfl
  | succ k ih =>
    rw [cntN, pts, ih]
    cases h : hasB s ((k : Int) + 1) <;> simp
/-- the first port that came, 0: none -/
def hdV (s : Nat) : Int := match pts s 16 with
  | [] => 0
  | x :: _ => (x % 16 : Nat) + 1
theorem hdV_of (s k x : Nat) (l : List Nat) (hk : k ≤ 16) (h : pts s k = x :: l) : hdV s = (x % 16 : Nat) + 1 := by
  have : ∀ j, ∃ r, pts s (k + j) = pts s k ++ r := by
    intro j
    induction j with
    | zero => exact ⟨[], by simp⟩
    | succ j ih =>
      obtain ⟨r, hr⟩ := ih
      rw [← Nat.add_assoc, pts]
      split
      · exact ⟨r ++ [k + j], by rw [hr]; simp⟩
      · exact ⟨r, hr⟩
  obtain ⟨r, hr⟩ := this (16 - k)
  rw [show k + (16 - k) = 16 by omega, h] at hr
  rw [hdV, hr]
  rfl
theorem hdV_zero (s : Nat) : decide (hdV s = 0) = decide ((cntN s 16 : Int) = 0) := by
  rw [cntN_pts, hdV]
  cases h : pts s 16 with
  | nil => rfl
  | cons x l =>
    rw [decide_eq_false (by simp; omega), decide_eq_false (by simp; omega)]
theorem loopMid {P : Program} {c : Code} {n : Nat} {Q : Exit → Act → World → Prop} {T : Array Value} {ds : List Deferred} {W : World} (R : Nat → World → Prop)
    (h : c.wp P (fun e a' W' => (e = .normal ∨ e = .exit n) ∧ ∃ D, a' = { tmps := T, defers := { target := .collected D, args := #[] } :: ds } ∧ W'.heap[D]? = some (.deferred (some [])) ∧ R D W') { tmps := T, defers := ds } W)
    (k : ∀ D W', W'.heap[D]? = some (.deferred (some [])) → R D W' → Q .normal { tmps := T, defers := { target := .collected D, args := #[] } :: ds } W') :
    c.wp P (Exit.inBlock n Q) { tmps := T, defers := ds } W := by
  refine wp_mono h ?_
  rintro e a w ⟨rfl | rfl, D, rfl, hD, hR⟩
  · exact k D w hD hR
  · show Exit.inBlock n Q (.exit n) _ _
    rw [Exit.inBlock, if_pos rfl]
    exact k D w hD hR
theorem ownFrom_row {β : Type} {r B : Nat} (h : r < B) : OwnFrom B (fun (_ : β) (W : World) => W.heap[r]? = some (.deferred (some []))) :=
  fun _ W W' row hs hg hr => (hg.block r (Array.getElem?_eq_some_iff.1 hs).1 (fun e => by have := (hr r e.symm).1; omega)).trans hs
set_option maxRecDepth 100000 in
set_option maxHeartbeats 4000000 in
theorem portsOf_walk (a0 : Option Addr) (n0 c0 : Nat) (zs : List Int) (w : World) (hn0 : n0 ≤ c0) (hm : c0 ≤ maxLen)
    (hz : ∀ i, -9223372036854775808 ≤ zs.getD i 0 ∧ zs.getD i 0 ≤ 9223372036854775807) (hc : n0 = 0 ∨ (∃ b0 o0, a0 = some ⟨b0, o0, none⟩ ∧ IntsAt .i64 w b0 o0 n0 zs)) :
    Calls Try.prog 4 #[.slice a0 n0 c0] w fun e w' => e = .returned (.bool true) ∧ Kept noB w w' := by
  unfold maxLen at hm
  have HC := Lib.hid hc
  have HZ := Lib.hid hz
  clear hc hz
  refine (callsIn_wide (n := 4)).1 ?_
  refine callsIn_of_wp_marks Try.func4 rfl trivial ?_ rfl
  simp only [Try.ntmps4, List.size_toArray, List.length_cons, List.length_nil, Nat.reduceAdd, Nat.reduceSub, Array.replicate_succ, Array.replicate_zero, List.push_toArray, List.append_toArray, List.nil_append, List.cons_append]
  refine wpIn_wide.2 ?_
  go_wp2_with fail
  refine (speaks07 _).mono ?_
  rintro e w1 ⟨rfl, hk1⟩
  go_wp2_with fail
  all_goals
    first
    | (have hX : Hid (30 = 0 ∨ ∃ b0 o0, a0 = some ⟨b0, o0, none⟩ ∧ IntsAt .i64 w b0 o0 30 zs) := Lib.hid (HC.out.elim (fun e => absurd e (by omega)) (fun ⟨b0, o0, e, i⟩ => .inr ⟨b0, o0, e, fun j hj => i j (by omega)⟩))
       have hNc : 30 ≤ c0 := by omega
       clear HC hn0
       generalize hN : (30 : Nat) = N at hX hNc ⊢
       have hN30 : N ≤ 30 := by omega
       clear hN
       skip)
    | (have hX : Hid (n0 = 0 ∨ ∃ b0 o0, a0 = some ⟨b0, o0, none⟩ ∧ IntsAt .i64 w b0 o0 n0 zs) := Lib.hid (HC.out.elim (fun e => .inl e) (fun ⟨b0, o0, e, i⟩ => .inr ⟨b0, o0, e, i⟩))
       have hNc : n0 ≤ c0 := hn0
       have hN30 : n0 ≤ 30 := by omega
       clear HC hn0
       generalize n0 = N at *)
  all_goals
    have hX1 : Hid (N = 0 ∨ ∃ b0 o0, a0 = some ⟨b0, o0, none⟩ ∧ IntsAt .i64 w1 b0 o0 N zs) := Lib.hid (hX.out.imp id fun ⟨b0, o0, e, i⟩ => ⟨b0, o0, e, i.kept hk1⟩)
    have hof := of_calls zs N c0 a0 w1 (by unfold maxLen; omega) hX1.out
    refine hof.mono ?_
    rintro e w2 ⟨rfl, rfl⟩
    have hs16 := ofN_lt16 zs N
    have HE : Hid (∀ p, isPort p = true → hasB (ofN zs N) p = anyE zs p N) := Lib.hid (fun p hp => hasB_ofN zs p hp N)
    have HO := Lib.hid hof
    clear hof
    obtain ⟨s, hS⟩ : ∃ s, ofN zs N = s := ⟨_, rfl⟩
    rw [hS] at hs16 HE HO ⊢
    have HS := Lib.hid hS
    clear hS
    have hs32 : s < 4294967296 := by omega
    go_wp2_with fail
    go_loop [4] (fun p => ∃ k : Nat, k ≤ 16 ∧ p = .int .i64 ((k : Int) + 1)) (fun p => 17 - (intOf p).toNat)
    case atStart => exact ⟨0, by omega, rfl⟩
    case round =>
      obtain ⟨k, hk, rfl⟩ := hrel
      by_cases hk16 : k < 16
      · go_wp2_with fail
        go_loop [5, 6] (fun b i => ∃ c : Nat, c ≤ N ∧ i = .int .i64 c ∧ b = .bool (anyE zs ((k : Int) + 1) c)) (fun _ i => N - (intOf i).toNat)
        case atStart => exact ⟨0, by omega, rfl, rfl⟩
        case round =>
          obtain ⟨c, hc, rfl, rfl⟩ := hrel
          by_cases hcN : c < N
          · obtain ⟨b0, o0, rfl, i0⟩ : ∃ b0 o0, a0 = some ⟨b0, o0, none⟩ ∧ IntsAt .i64 w1 b0 o0 N zs := by
              rcases hX1.out with h | h
              · omega
              · exact h
            have hx := i0 c hcN
            have hz := HZ.out c
            have HA : Hid (anyE zs ((k : Int) + 1) (c + 1) = (anyE zs ((k : Int) + 1) c || decide (zs.getD c 0 = (k : Int) + 1))) := rfl
            generalize zs.getD c 0 = x at *
            generalize anyE zs ((k : Int) + 1) c = y at *
            cases y
            · go_wp2_with fail
              exact ⟨⟨c + 1, by omega, by go_num, by rw [HA.out]; rfl⟩, by simp [intOf]; omega⟩
            · go_wp2_with fail
              exact ⟨⟨c + 1, by omega, by go_num, by rw [HA.out]; rfl⟩, by simp [intOf]; omega⟩
          · obtain rfl : c = N := by omega
            have hcall := has_calls s ((k : Int) + 1) w1 hs32
            rw [HE.out _ (by simp [isPort]; omega)] at hcall
            generalize anyE zs ((k : Int) + 1) c = y at *
            go_wp2_with fail
            refine hcall.mono ?_
            rintro e w2 ⟨rfl, rfl⟩
            cases y
            · go_wp2_with fail
              exact ⟨⟨k + 1, by omega, by go_num⟩, by simp [intOf]; omega⟩
            · go_wp2_with fail
              exact ⟨⟨k + 1, by omega, by go_num⟩, by simp [intOf]; omega⟩
      · obtain rfl : k = 16 := by omega
        go_wp2_with fail
        refine (all_calls s _).mono ?_
        rintro e w2 ⟨rfl, rfl⟩
        go_wp2_with fail
        obtain ⟨W1, hW1⟩ : ∃ W1, (w1.alloc (Obj.cells #[Value.int IntKind.i64 0] 3)).alloc (Obj.cells #[Value.int IntKind.u32 (s : Int)] 24) = W1 := ⟨_, rfl⟩
        have hsz : W1.heap.size = w1.heap.size + 2 := by rw [← hW1]; simp
        have bA : Blk W1 w1.heap.size 3 [.int .i64 0] := by rw [← hW1]; exact (Blk.new w1 3 [.int .i64 0]).alloc _
        have bS : Blk W1 (w1.heap.size + 1) 24 [.int .u32 (s : Int)] := by
          have h := Blk.new (w1.alloc (Obj.cells #[Value.int IntKind.i64 0] 3)) 24 [.int .u32 (s : Int)]
          rw [← hW1]
          rwa [World.size_alloc] at h
        have hKW : Kept noB w W1 := by rw [← hW1]; exact (hk1.alloc _).alloc _
        have hs1 := hk1.size
        rw [hW1]
        have hIA : ∀ i0, i0 = w1.heap.size → True := fun _ _ => trivial
        refine loopMid (fun D W' => W1.heap.size ≤ D ∧ W'.cell? ⟨w1.heap.size, 0, none⟩ = some (.int .i64 (hdV s)) ∧ Below w.heap.size w W') ?_ ?_
        · refine (wpIn_wide (n := 4)).1 ?_
          refine wpIn_rangeFunc_ownF rfl (by omega) (gf := 47) (lb := #[.pointer (some ⟨w1.heap.size + 1, 0, none⟩)]) rfl trivial (enters_of Try.func47 (by kernel_rfl) rfl)
            (all_stops 3 (w1.heap.size + 1) s hs32 (by omega) W1 (bS.cell 0)) KpC_t (KpC_b (by omega)) (Below.refl _ _) (fun _ => rfl)
            (fun pre W => (pre = [] ∧ W.cell? ⟨w1.heap.size, 0, none⟩ = some (.int .i64 0) ∧ W.frozen? ⟨w1.heap.size, 0, none⟩ = false) ∧ Below w.heap.size w W)
            (fun c pre W => (c = .exit 4 ∧ ∃ x, pre = [x] ∧ W.cell? ⟨w1.heap.size, 0, none⟩ = some (ptV x)) ∧ Below w.heap.size w W)
            (OwnFrom.and (Own.from (fun s A B row hs hg hr => ⟨hs.1, cell_kept hs.2.1 hg hr, (frozen_kept hs.2.1 hg hr).trans hs.2.2⟩) _) (ownFrom_below (Nat.le_refl _) (by omega)))
            (fun c => OwnFrom.and (Own.from (fun s A B row hs hg hr => ⟨hs.1, hs.2.imp fun x h => ⟨h.1, cell_kept h.2 hg hr⟩⟩) _) (ownFrom_below (Nat.le_refl _) (by omega)))
            ⟨⟨rfl, bA.cell 0, bA.frozen 0⟩, hKW.below⟩ ?_ ?_ ?_ ?_ ?_
          rotate_left
          · skip
            intro l x W K hK
            gi_wp2
            exact hK
          · skip
            rintro l pre x W ⟨⟨rfl, hcc, hff⟩, hBB⟩ _
            dsimp only [ptV]
            gi_wp2
            exact ⟨KeepsOthers.setCell _ _ _, ⟨rfl, x, rfl, World.cell?_setCell_same' _ _ _ (by rw [hcc]; rfl)⟩, hBB.setCell (p := ⟨w1.heap.size, 0, none⟩) hs1 _⟩
          · skip
            rintro D xs W hD rfl ⟨⟨hn, hcc, _⟩, hBB⟩ hK
            exact ⟨.inl rfl, D, rfl, hK, hD, by rw [hcc, hdV, hn], hBB⟩
          · skip
            rintro D c pre W hD ⟨k, hk, hp, _⟩ ⟨⟨rfl, x, rfl, hcc⟩, hBB⟩ hK
            refine wpIn_exit ?_
            exact ⟨.inr rfl, D, rfl, hK, hD, by rw [hcc, hdV_of s k x [] hk hp.symm]; rfl, hBB⟩
        · rintro D1 W2 hD1 ⟨hD1s, hcA, hB2⟩
          go_wp2_with fail
          refine (all_calls s _).mono ?_
          rintro e w2 ⟨rfl, rfl⟩
          go_wp2_with fail
          obtain ⟨W3, hW3⟩ : ∃ W3, (W2.alloc (Obj.cells #[Value.int IntKind.i64 0] 3)).alloc (Obj.cells #[Value.int IntKind.u32 (s : Int)] 24) = W3 := ⟨_, rfl⟩
          have hsz3 : W3.heap.size = W2.heap.size + 2 := by rw [← hW3]; simp
          have bA3 : Blk W3 W2.heap.size 3 [.int .i64 0] := by rw [← hW3]; exact (Blk.new W2 3 [.int .i64 0]).alloc _
          have bS3 : Blk W3 (W2.heap.size + 1) 24 [.int .u32 (s : Int)] := by
            have h := Blk.new (W2.alloc (Obj.cells #[Value.int IntKind.i64 0] 3)) 24 [.int .u32 (s : Int)]
            rw [← hW3]
            rwa [World.size_alloc] at h
          have hk3 : Kept noB W2 W3 := by rw [← hW3]; exact ((Kept.refl _ _).alloc _).alloc _
          have hcA3 := hk3.cell hcA (fun e => e)
          have hlD : D1 < W2.heap.size := (Array.getElem?_eq_some_iff.1 hD1).1
          have hD13 : W3.heap[D1]? = some (.deferred (some [])) := (hk3.block D1 hlD (fun e => e)).trans hD1
          have hB3 := hB2.trans (hk3.below.mono hB2.size)
          have hs2 := hB2.size
          rw [hW3]
          refine loopMid (fun D W' => (W3.heap.size ≤ D ∧ W'.cell? ⟨w1.heap.size, 0, none⟩ = some (.int .i64 (hdV s)) ∧ W'.heap[D1]? = some (.deferred (some [])) ∧ W'.cell? ⟨W2.heap.size, 0, none⟩ = some (.int .i64 (hdV s))) ∧ Below w.heap.size w W') ?_ ?_
          · refine (wpIn_wide (n := 4)).1 ?_
            refine wpIn_rangeFunc_ownF rfl (by omega) (gf := 47) (lb := #[.pointer (some ⟨W2.heap.size + 1, 0, none⟩)]) rfl trivial (enters_of Try.func47 (by kernel_rfl) rfl)
              (all_stops 3 (W2.heap.size + 1) s hs32 (by omega) W3 (bS3.cell 0)) KpC_t (KpC_b (by omega)) (Below.refl _ _) (fun _ => rfl)
              (fun pre W => ((pre = [] ∧ W.cell? ⟨W2.heap.size, 0, none⟩ = some (.int .i64 0) ∧ W.frozen? ⟨W2.heap.size, 0, none⟩ = false ∧ W.cell? ⟨w1.heap.size, 0, none⟩ = some (.int .i64 (hdV s))) ∧ W.heap[D1]? = some (.deferred (some []))) ∧ Below w.heap.size w W)
              (fun c pre W => ((c = .exit 6 ∧ (∃ x, pre = [x] ∧ W.cell? ⟨W2.heap.size, 0, none⟩ = some (ptV x)) ∧ W.cell? ⟨w1.heap.size, 0, none⟩ = some (.int .i64 (hdV s))) ∧ W.heap[D1]? = some (.deferred (some []))) ∧ Below w.heap.size w W)
              (OwnFrom.and (OwnFrom.and (Own.from (fun s A B row hs hg hr => ⟨hs.1, cell_kept hs.2.1 hg hr, (frozen_kept hs.2.1 hg hr).trans hs.2.2.1, cell_kept hs.2.2.2 hg hr⟩) _) (ownFrom_row (by omega))) (ownFrom_below (Nat.le_refl _) (by omega)))
              (fun c => OwnFrom.and (OwnFrom.and (Own.from (fun s A B row hs hg hr => ⟨hs.1, hs.2.1.imp fun x h => ⟨h.1, cell_kept h.2 hg hr⟩, cell_kept hs.2.2 hg hr⟩) _) (ownFrom_row (by omega))) (ownFrom_below (Nat.le_refl _) (by omega)))
              ⟨⟨⟨rfl, bA3.cell 0, bA3.frozen 0, hcA3⟩, hD13⟩, hB3⟩ ?_ ?_ ?_ ?_ ?_
            rotate_left
            · skip
              intro l x W K hK
              gi_wp2
              exact hK
            · skip
              rintro l pre x W ⟨⟨⟨rfl, hcc, hff, hcf⟩, hdd⟩, hBB⟩ _
              dsimp only [ptV]
              gi_wp2
              have hne : W2.heap.size ≠ D1 := by omega
              exact ⟨KeepsOthers.setCell _ _ _, ⟨⟨rfl, ⟨x, rfl, World.cell?_setCell_same' _ _ _ (by rw [hcc]; rfl)⟩, (World.cell?_of_block (a := ⟨w1.heap.size, 0, none⟩) (Below.heap_setCell W ⟨W2.heap.size, 0, none⟩ _ w1.heap.size (by show w1.heap.size ≠ W2.heap.size; omega))).trans hcf⟩, (Below.heap_setCell W ⟨W2.heap.size, 0, none⟩ _ D1 (fun e => hne e.symm)).trans hdd⟩, hBB.setCell (p := ⟨W2.heap.size, 0, none⟩) hs2 _⟩
            · skip
              rintro D xs W hD rfl ⟨⟨⟨hn, hcc, _, hcf⟩, hdd⟩, hBB⟩ hK
              exact ⟨.inl rfl, D, rfl, hK, ⟨hD, hcf, hdd, by rw [hcc, hdV, hn]⟩, hBB⟩
            · skip
              rintro D c pre W hD ⟨k, hk, hp, _⟩ ⟨⟨⟨rfl, ⟨x, rfl, hcc⟩, hcf⟩, hdd⟩, hBB⟩ hK
              refine wpIn_exit ?_
              exact ⟨.inr rfl, D, rfl, hK, ⟨hD, hcf, hdd, by rw [hcc, hdV_of s k x [] hk hp.symm]; rfl⟩, hBB⟩
          · rintro D2 W4 hD2 ⟨⟨hD2s, hc1, hdd, hc2⟩, hB4⟩
            have hd0 := hdV_zero s
            generalize hdV s = v at *
            have ka := cell_regrown hc1
            have kb := cell_regrown hc2
            have q1 := Calls.qkept (w := W4) (fun w1 _ => (count_calls s w1 hs32).mono fun e w' ⟨h1, d, h2⟩ => ⟨h1, h2 ▸ (Kept.refl noB w1).drewN d⟩)
            have hX4 : N = 0 ∨ ∃ b0 o0, a0 = some ⟨b0, o0, none⟩ ∧ IntsAt .i64 W4 b0 o0 N zs := hX.out.imp id fun ⟨b0, o0, e, i⟩ => ⟨b0, o0, e, i.kept (Kept.of_below hB4)⟩
            have q2 := Calls.qkept (w := W4) (fun w1 hk' => (of_calls zs N c0 a0 w1 (by unfold maxLen; omega) (hX4.imp id fun ⟨b0, o0, e, i⟩ => ⟨b0, o0, e, i.kept hk'⟩)).mono fun e w' ⟨h1, h2⟩ => ⟨h1, h2 ▸ Kept.refl noB w1⟩)
            have q3 := Calls.qkept (w := W4) (fun w1 _ => (within_calls s s w1 hs32 hs32).mono fun e w' ⟨h1, h2⟩ => ⟨h1, h2 ▸ Kept.refl noB w1⟩)
            have hso : Hid (ofN zs N = s) := HS
            rw [hso.out] at q2
            rw [inP_self s hs32] at q3
            have hcn : v = 0 ↔ cntN s 16 = 0 := by
              rw [decide_eq_decide] at hd0
              rw [hd0]
              omega
            have hlt : (s : Int) < 65536 := by omega
            generalize cntN s 16 = cn at *
            clear hd0
            by_cases hv0 : v = 0
            · obtain rfl : cn = 0 := hcn.1 hv0
              subst hv0
              go_wp2_with fail
              refine wp_region_quiet_below (by kernel_rfl) (by kernel_rfl) ?_
              repeat (quiet_step (first | with_reducible exact q1 _ _ | with_reducible exact q2 _ _ | with_reducible exact q3 _ _))
              refine wpQuiet_nil ?_
              intro _ hw'
              obtain ⟨⟨dq, osq⟩, hw''⟩ := hw'
              subst hw''
              have kR := Kept.regrown W4 dq osq
              have hB5 := hB4.trans (kR.below.mono hB4.size)
              have hd1 := (kR.block D1 (Array.getElem?_eq_some_iff.1 hdd).1 (fun e => e)).trans hdd
              have hd2 := (kR.block D2 (Array.getElem?_eq_some_iff.1 hD2).1 (fun e => e)).trans hD2
              generalize Sort.grow (redrawn W4 dq) osq = W5 at *
              have h1 := (World.putObj_heap_other (o := .deferred none) (w := W5) (show D1 ≠ D2 by omega)).trans hd1
              go_wp2_with fail
              refine ⟨by simp, .inl ⟨_, _, rfl, run_takeDeferred hd2, ?_⟩⟩
              refine ⟨by simp, .inl ⟨_, _, rfl, run_takeDeferred h1, ?_⟩⟩
              have h2 := hB5.trans (belowK_b (w := w) (Nat.le_refl _) W5 D2 _ (.deferred none) (by omega) hd2 rfl rfl)
              exact ⟨_, results_tmp rfl _ _ _, rfl, Kept.of_below (h2.trans (belowK_b (w := w) (Nat.le_refl _) _ D1 _ _ (by omega) h1 rfl rfl))⟩
            · have hcn0 : ¬ cn = 0 := fun e => hv0 (hcn.2 e)
              have hcn1 : ((cn : Int) == 0) = false := by simp; omega
              have hv1 : (v == 0) = false := by simp; omega
              go_wp2_with fail
              refine wp_region_quiet_below (by kernel_rfl) (by kernel_rfl) ?_
              repeat (quiet_step (first | with_reducible exact q1 _ _ | with_reducible exact q2 _ _ | with_reducible exact q3 _ _))
              refine wpQuiet_nil ?_
              intro _ hw'
              obtain ⟨⟨dq, osq⟩, hw''⟩ := hw'
              subst hw''
              have kR := Kept.regrown W4 dq osq
              have hB5 := hB4.trans (kR.below.mono hB4.size)
              have hd1 := (kR.block D1 (Array.getElem?_eq_some_iff.1 hdd).1 (fun e => e)).trans hdd
              have hd2 := (kR.block D2 (Array.getElem?_eq_some_iff.1 hD2).1 (fun e => e)).trans hD2
              generalize Sort.grow (redrawn W4 dq) osq = W5 at *
              have h1 := (World.putObj_heap_other (o := .deferred none) (w := W5) (show D1 ≠ D2 by omega)).trans hd1
              go_wp2_with fail
              refine ⟨by simp, .inl ⟨_, _, rfl, run_takeDeferred hd2, ?_⟩⟩
              refine ⟨by simp, .inl ⟨_, _, rfl, run_takeDeferred h1, ?_⟩⟩
              have h2 := hB5.trans (belowK_b (w := w) (Nat.le_refl _) W5 D2 _ (.deferred none) (by omega) hd2 rfl rfl)
              exact ⟨_, results_tmp rfl _ _ _, rfl, Kept.of_below (h2.trans (belowK_b (w := w) (Nat.le_refl _) _ D1 _ _ (by omega) h1 rfl rfl))⟩
end Go.Proofs.Ytngpfjmifaecjaa
