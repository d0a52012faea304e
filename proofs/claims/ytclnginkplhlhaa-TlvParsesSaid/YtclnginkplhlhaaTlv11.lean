/- The walk of girderref21.Parse. Condition: the text's length. (Printed by wip/mk11.py.) -/
import Derived.Test.YtclnginkplhlhaaTlv4
import Derived.Test.YtclnginkplhlhaaTlv6
import Derived.Test.YtclnginkplhlhaaTlv8
namespace Go.Proofs.Ytclnginkplhlhaa
open Go.RowKit
set_option linter.unusedSimpArgs false
def paE (base k : Nat) (xs : List Value) (a : Nat) (s : ByteArray) (i : Nat) (f : Nat → Bool) (w : World) (v : Value) : Prop := match i with
  | 8 => f 9 = false → ∃ g, v = .slice (some ⟨g, 0, none⟩) 1 1 ∧ Blk w g 108 [.int .u8 (a : Int), .string s]
  | 9 => w.ownsRow base 108 2 v (k + 1) (xs ++ [.int .u8 (a : Int), .string s])
  | 10 => w.ownsRow base 108 2 v (k + 1) (xs ++ [.int .u8 (a : Int), .string s])
  | _ => True
def paS (val : Nat → Option Value) (base k : Nat) (xs : List Value) (a : Nat) (s : ByteArray) (i : Nat) (f : Nat → Bool) (w : World) (v : Value) : Prop := match val i with | some u => v = u | none => paE base k xs a s i f w v
def paW (w0 : World) (base k : Nat) (xs : List Value) (v4 : Value) (f : Nat → Bool) (w : World) : Prop :=
  Kept noB w0 w ∧ (f 10 = true → f 0 = true ∧ f 9 = true) ∧ (f 9 = false → w.ownsRow base 108 2 v4 k xs)
section
variable {val : Nat → Option Value} {base k a : Nat} {xs : List Value} {s : ByteArray} {w0 w w' : World} {v4 : Value} {f : Nat → Bool} {a0 a1 : Act} {ds : List (Nat × Nat)}
theorem paS_keep {i p : Nat} {v : Value} (hB : SameT 108 w w' ∨ (i = 9 ∧ p ≠ 10 ∧ p ≠ 9))
    (h : paS val base k xs a s p f w v) : paS val base k xs a s p (fun j => decide (j = i) || f j) w' v := by
  unfold paS at h ⊢
  cases hv : val p with
  | some u => rw [hv] at h; exact h
  | none =>
    rw [hv] at h
    simp only at h ⊢
    unfold paE at h ⊢
    split at h
    · intro h9
      rcases hB with hs | ⟨rfl, _⟩
      · obtain ⟨g, e, hb⟩ := h (upd_f h9)
        exact ⟨g, e, hs _ _ hb⟩
      · simp at h9
    · rcases hB with hs | ⟨_, _, h9⟩
      · exact own_same h hs
      · exact absurd rfl h9
    · rcases hB with hs | ⟨_, h9, _⟩
      · exact own_same h hs
      · exact absurd rfl h9
    · trivial
theorem paW_kept {i : Nat} (h20 : i = 10 → f 0 = true ∧ f 9 = true) (h : paW w0 base k xs v4 f w) (hk : Kept noB w w') : paW w0 base k xs v4 (fun j => decide (j = i) || f j) w' := by
  obtain ⟨a1, a2, a4⟩ := h
  refine ⟨a1.no hk, fun e => ?_, fun e => own_same (a4 (upd_f e)) (.of_kept hk)⟩
  simp only [Bool.or_eq_true, decide_eq_true_eq] at e ⊢
  rcases e with e | e
  · exact ⟨.inr (h20 e.symm).1, .inr (h20 e.symm).2⟩
  · exact ⟨.inr (a2 e).1, .inr (a2 e).2⟩
theorem paW_9 (hb : w0.heap.size ≤ base) (h : paW w0 base k xs v4 f w) (h9 : f 9 = false) (hg : w.grownBy w' v4.ownBlock) : paW w0 base k xs v4 (fun j => decide (j = 9) || f j) w' := by
  obtain ⟨a1, a2, a4⟩ := h
  have o4 := a4 h9
  refine ⟨a1.grown hg (fun k e hlt => by have := (o4.lt k e).1; omega), fun e => ?_, fun e => by simp at e⟩
  simp at e
  simp [a2 e]
theorem PA.put (hI : Slots a0 ds (paS val base k xs a s) (paW w0 base k xs v4) f a1 w) {i d : Nat} {v : Value} (hok : slotsOk a0.tmps.size ds = true) (hd : (i, d) ∈ ds) (hS : ∀ f, paS val base k xs a s i f w' v)
    (h20 : i = 10 → f 0 = true ∧ f 9 = true) (hk : Kept noB w w') : Slots a0 ds (paS val base k xs a s) (paW w0 base k xs v4) (fun j => decide (j = i) || f j) (a1.put (some d) v) w' :=
  hI.put hok hd (paW_kept h20 hI.world hk) (hS _) (fun _ _ _ _ h => paS_keep (.inl (.of_kept hk)) h)
theorem PA.step (hI : Slots a0 ds (paS val base k xs a s) (paW w0 base k xs v4) f a1 w) {i d : Nat} {v : Value} (hok : slotsOk a0.tmps.size ds = true) (hd : (i, d) ∈ ds) (hv : val i = some v)
    (h20 : i ≠ 10) (hk : Kept noB w w') : Slots a0 ds (paS val base k xs a s) (paW w0 base k xs v4) (fun j => decide (j = i) || f j) (a1.put (some d) v) w' :=
  PA.put hI hok hd (fun _ => by unfold paS; rw [hv]) (fun e => absurd e h20) hk
end
def paD : List (Nat × Nat) := [(0, 72), (1, 73), (2, 74), (3, 75), (4, 76), (5, 77), (6, 78), (7, 79), (8, 80), (9, 81), (10, 7)]
def paV (u7 : Value) (x : UInt8) (t D : List UInt8) (N : Nat) : Nat → Option Value
  | 0 => some (u7)
  | 1 => some (.string (bs (x :: t)))
  | 2 => some (.int .u8 (x.toNat : Int))
  | 3 => some (.string (bs (x :: t)))
  | 4 => some (.int .u64 (N : Int))
  | 5 => some (.int .u64 (5 + (N : Int)))
  | 6 => some (.string (bs D))
  | 7 => some (.agg #[.int .u8 (x.toNat : Int), .string (bs D)])
  | _ => none
set_option maxRecDepth 100000 in
set_option maxHeartbeats 4000000 in
theorem rparse_short (l : List UInt8) (w : World) (hl : l.length < 13) : Calls Try.prog 31 #[.string (bs l)] w (ParseOut w l) := by
  have hE : parseE l = 2 := by simp [parseE, hl]
  have HB := Lib.hid (fun w' (hk : Kept noB w w') => ParseOut.bad hE (by omega) hk)
  have hz : (bs l).size < 13 := by rw [bs_size]; exact hl
  clear hE
  go_enter Try.func31, Try.ntmps31
  go_wp2_with fail
  go_ret3
  exact HB.out _ (Kept.refl _ _)
set_option maxRecDepth 100000 in
set_option maxHeartbeats 8000000 in
theorem rparse_long (N4 M4 : List UInt8) (v : UInt8) (hN4 : N4.length = 4) (hM4 : M4.length = 4) (rs : List UInt8) (w : World) (hl : rs.length ≤ 1000000) (hl4 : 4 ≤ rs.length) : Calls Try.prog 31 #[.string (bs (N4 ++ ([v] ++ (M4 ++ rs))))] w (ParseOut w (N4 ++ ([v] ++ (M4 ++ rs)))) := by
  have hll : (N4 ++ ([v] ++ (M4 ++ rs))).length = 9 + rs.length := by simp [hN4, hM4]; omega
  have hz : (bs (N4 ++ ([v] ++ (M4 ++ rs)))).size = 9 + rs.length := by rw [bs_size, hll]
  generalize hL : N4 ++ ([v] ++ (M4 ++ rs)) = l at *
  obtain ⟨hPE, hg4⟩ := parse_eq N4 M4 rs v hN4 hM4 hl4 l hL
  have x4 : (bs l).extract 0 4 = bs N4 := by
    rw [bs_take, ← hL, ← hN4, List.take_left]
  have d5 : l.drop 5 = M4 ++ rs := by
    rw [← hL, show (5 : Nat) = N4.length + 1 by omega, ← List.drop_drop, List.drop_left]
    rfl
  have x59 : (bs l).extract 5 9 = bs M4 := by
    rw [bs_extract, d5, show 9 - 5 = M4.length by omega, List.take_left]
  have i4 : ∀ h, ((bs l)[4]'h).toNat = v.toNat := fun h => by
    have e1 : (bs l)[4]'h = l[4]'(by omega) := rfl
    have e2 := hg4
    rw [List.getD_eq_getElem?_getD, List.getElem?_eq_getElem (by omega)] at e2
    rw [e1]
    exact congrArg UInt8.toNat e2
  have hv2 := v.toNat_lt
  have wz : IntKind.u64.wrap ((rs.length : Int) - 4) = (rs.length : Int) - 4 := by
    have : ((rs.length : Int) - 4) = ((rs.length - 4 : Nat) : Int) := by omega
    rw [this]
    exact u64_wrap_nat _ (by omega)
  have HPE := Lib.hid hPE
  have HG4 := Lib.hid hg4
  have HL := Lib.hid hL
  have hz13 : ¬ (9 + rs.length < 13) := by omega
  clear hL hPE hg4 d5
  go_enter Try.func31, Try.ntmps31
  by_cases hmag : N4 = magicL
  · have ht : ((bs N4).toList == [71, 82, 68, 82]) = true := by rw [bs_toListE, hmag]; rfl
    have hPE := HPE.out
    rw [if_neg (by simpa using hmag)] at hPE
    have HPE2 := Lib.hid hPE
    clear hPE hmag HPE
    cases hg : goodV v.toNat with
    | false =>
      have hE : parseE l = 8 := by rw [HPE2.out, hg]; rfl
      have HB := Lib.hid (ParseOut.bad hE (by omega) (Kept.refl noB w))
      clear hE HPE2
      generalize v.toNat = vn at *
      rcases (show vn < 1 ∨ (1 ≤ vn ∧ 3 < vn) by simp [goodV] at hg; omega) with h | ⟨h, h2⟩
      · have h' : (vn : Int) < 1 := by omega
        clear hg
        go_wp2_with fail
        go_ret3
        exact HB.out
      · have h1 : decide ((vn : Int) < 1) = false := by simp; omega
        have h' : (1 : Int) ≤ vn := by omega
        have h2' : (3 : Int) < vn := by omega
        clear hg
        go_wp2_with fail
        go_ret3
        exact HB.out
    | true =>
      have HV1 := Lib.hid (show parseE l = 0 → parseV l = v.toNat from fun h => by rw [parseV, if_neg (by simpa using h), HG4.out])
      have hPE := HPE2.out
      rw [hg, if_neg (by simp)] at hPE
      have HPE3 := Lib.hid hPE
      clear hPE HPE2
      have hNb := numU_lt M4
      rw [hM4] at hNb
      have q1 := number_calls M4 w (by omega)
      generalize hVN : v.toNat = vn at *
      generalize hNe : numU M4 = N at *
      have hv1 : (1 : Int) ≤ vn := by simp [goodV] at hg; omega
      have hv3 : (vn : Int) ≤ 3 := by simp [goodV] at hg; omega
      have dv1 : decide ((vn : Int) < 1) = false := by simp; omega
      have dv3 : decide ((3 : Int) < vn) = false := by simp; omega
      clear hg hVN hNe HG4
      rcases (show rs.length - 4 < N ∨ N < rs.length - 4 ∨ N = rs.length - 4 by omega) with h1 | h1 | h1
      · have hE : parseE l = 2 := by rw [HPE3.out, if_pos h1]
        have HB := Lib.hid (ParseOut.bad hE (by omega) (Kept.refl noB w))
        have h1' : (rs.length : Int) - 4 < (N : Int) := by omega
        clear hE
        go_wp2_with (refine q1.mono ?_; rintro e w6 ⟨rfl, rfl⟩)
        go_ret3
        exact HB.out
      · have hE : parseE l = 3 := by rw [HPE3.out, if_neg (by omega), if_pos h1]
        have HB := Lib.hid (ParseOut.bad hE (by omega) (Kept.refl noB w))
        have h1' : (N : Int) < (rs.length : Int) - 4 := by omega
        have h1d : decide ((rs.length : Int) - 4 < (N : Int)) = false := by simp; omega
        clear hE
        go_wp2_with (refine q1.mono ?_; rintro e w6 ⟨rfl, rfl⟩)
        go_ret3
        exact HB.out
      · have h1d : decide ((rs.length : Int) - 4 < (N : Int)) = false := by simp; omega
        have h2d : decide ((N : Int) < (rs.length : Int) - 4) = false := by simp; omega
        have h1e : decide (9 + (rs.length : Int) - 13 < (N : Int)) = false := by simp; omega
        have h2e : decide ((N : Int) < 9 + (rs.length : Int) - 13) = false := by simp; omega
        have t5w : IntKind.i64.wrap (9 + (rs.length : Int) - 4) = 5 + (rs.length : Int) := by rw [IntKind.wrap_i64]; omega
        have t5n : (5 + (rs.length : Int)).toNat = 5 + rs.length := by omega
        have t5 : (9 + (rs.length : Int) - 4).toNat = 5 + rs.length := by omega
        obtain ⟨B, S4, hrs, hB⟩ : ∃ B S4, rs = B ++ S4 ∧ B.length = N := ⟨rs.take N, rs.drop N, (List.take_append_drop N rs).symm, by simp; omega⟩
        have hS4 : S4.length = 4 := by have := congrArg List.length hrs; rw [List.length_append] at this; omega
        have hLL := HL.out
        rw [hrs] at hLL
        obtain ⟨p1, p2, p3, p4⟩ := parse_parts N4 M4 B S4 v hN4 hM4 hS4 l hLL
        have hE := HPE3.out
        rw [if_neg (by omega), if_neg (by omega), p1, p2, p3] at hE
        generalize hPe : N4 ++ ([v] ++ (M4 ++ B)) = P at *
        have hl5 : l.length - 4 = 5 + rs.length := by omega
        have xa : (bs l).extract (5 + rs.length) (9 + rs.length) = bs S4 := by
          rw [← hz, bs_drop, ← hl5, p1]
        have xb : (bs l).extract 0 (5 + rs.length) = bs P := by rw [bs_take, ← hl5, p2]
        have xc : (bs l).extract 9 (5 + rs.length) = bs B := by
          rw [bs_extract, show 5 + rs.length - 9 = l.length - 13 by omega]
          exact congrArg bs p3
        have hP : P.length ≤ 1000010 := by omega
        have HE := Lib.hid hE
        have HP3 := Lib.hid p3
        have hN6 : (rs.length : Int) ≤ 1000000 := by omega
        have q2 := Calls.qkept (w := w) (fun w1 _ => rtsum_calls P w1 (by omega))
        have hBl : B.length + 4 = rs.length := by omega
        clear HL HPE3 hE hrs hLL p1 p2 p3 hl5 h1 hll hPe p4 hB
        by_cases hs4 : S4 = sumL P
        · have ht2 : ((bs S4).toList == (bs (sumL P)).toList) = true := by rw [bs_toListE, bs_toListE, hs4]; simp
          have hE := HE.out
          rw [if_neg (by simpa using hs4)] at hE
          have HE2 := Lib.hid hE
          clear HE hE hs4
          go_wp2_with fail
          refine q1.mono ?_
          rintro e w6 ⟨rfl, rfl⟩
          go_wp2_with fail
          refine wp_region_quiet_below (by kernel_rfl) (by kernel_rfl) ?_
          repeat (first | go_big_quiet_step (with_reducible exact q2 _ _) | quiet_step (with_reducible exact q2 _ _))
          refine wpQuiet_nil ?_
          intro _ hw'
          obtain ⟨⟨dq, osq⟩, hw''⟩ := hw'
          subst hw''
          have kR := Kept.regrown w dq osq
          clear q1 q2 xa xb ht2 ht x4 x59
          generalize Sort.grow (redrawn w dq) osq = w5 at *
          go_wp2_with fail
          have hBl6 : B.length ≤ 1000000 := by omega
          clear xc t5 t5w t5n h1d h2d h1e h2e hBl hP hz hz13 wz hNb dv1 dv3 hv1 hv3 hS4 i4 hl4 hl hN6
          go_loopw [7, 8] (fun o b wr => ∃ done rest, Come B done rest ∧ b = .string (bs rest) ∧ wr.ownsRow w.heap.size 108 2 o done.length (secC done) ∧ Kept noB w wr) (fun _ b _ => match b with | .string s => s.size | _ => 0)
          case atStart => exact ⟨[], B, come_start B, rfl, World.ownsRow_nil _ _ _ _, kR⟩
          case round =>
            obtain ⟨done, rest, hcome, rfl, hown, hk⟩ := hrel
            clear kR
            match rest with
            | [] =>
              have hz0 : (bs ([] : List UInt8)).size = 0 := rfl
              obtain ⟨A, cap, rfl, hsec⟩ := own_at hown
              have hlen := own_len hown
              have hall := come_end hcome
              obtain ⟨hE, hS⟩ := secE_some hall
              have hE4 := HE2.out
              rw [hE] at hE4
              have hS4 : parseE l = 0 → parseS l = (if risingB done then done else []) := fun h => by rw [parseS, if_neg (by simpa using h), HP3.out, hS]
              have HE4 := Lib.hid hE4
              have HS4 := Lib.hid hS4
              clear hE hS hE4 hS4 hown hcome hall
              have hn' : done.length ≤ 9223372036854775807 := by unfold maxLen at hlen; exact hlen
              go_wp2_with fail
              go_loopw [10] (fun i wx => ∃ k : Nat, 1 ≤ k ∧ (k ≤ done.length ∨ k = 1) ∧ i = .int .i64 k ∧ upTo done k ∧ ∃ d, wx = wr.drewN d) (fun i _ => done.length - (intOf i).toNat)
              case atStart => exact ⟨1, Nat.le_refl _, .inr rfl, rfl, upTo_one done, 0, rfl⟩
              case round =>
                obtain ⟨k, hk1, hkl, rfl, hup, d, rfl⟩ := hrel
                by_cases hlt : k < done.length
                · have hlt' : (k : Int) < (done.length : Int) := by omega
                  obtain ⟨bb, off, rfl, hc⟩ : ∃ bb off, A = some ⟨bb, off, none⟩ ∧ ∀ k x, done[k]? = some x → wr.cell? ⟨bb, off + k * 2, none⟩ = some (.int .u8 (x.1.toNat : Int)) ∧ wr.cell? ⟨bb, off + k * 2 + 1, none⟩ = some (.string (bs x.2)) := by
                    rcases hsec with h | h
                    · subst h
                      simp at hlt
                    · exact h
                  obtain ⟨m, rfl⟩ : ∃ m, k = m + 1 := ⟨k - 1, by omega⟩
                  obtain ⟨x, hx⟩ : ∃ x, done[m]? = some x := ⟨_, List.getElem?_eq_getElem (show m < done.length by omega)⟩
                  obtain ⟨y, hy⟩ : ∃ y, done[m + 1]? = some y := ⟨_, List.getElem?_eq_getElem hlt⟩
                  have c0 := (hc _ _ hx).1
                  have c1 := (hc _ _ hy).1
                  have hnx := fun hle => upTo_next hup hk1 hx hy hle
                  have hno := fun hle => rising_not hx hy hle
                  clear hc hx hy
                  obtain ⟨a, ha⟩ : ∃ a : Nat, x.1.toNat = a := ⟨_, rfl⟩
                  obtain ⟨b, hb⟩ : ∃ b : Nat, y.1.toNat = b := ⟨_, rfl⟩
                  rw [ha, hb] at hnx hno
                  rw [ha] at c0
                  rw [hb] at c1
                  have hm1 : ((m : Nat) : Int) < (done.length : Int) := by omega
                  by_cases hle : b ≤ a
                  · have hle' : (b : Int) ≤ (a : Int) := by omega
                    have hE9 := HE4.out
                    rw [hno hle, if_neg Bool.false_ne_true] at hE9
                    have HB := Lib.hid (fun w' (hk : Kept noB w w') => ParseOut.bad hE9 (by omega) hk)
                    clear hnx hno hE9
                    go_wp2_with fail
                    go_quiet (fail)
                    go_wp2_with fail
                    go_ret3
                    exact HB.out _ ((hk.drewN _).drewN _)
                  · have hle' : (a : Int) < (b : Int) := by omega
                    have hR := Lib.hid (hnx (by omega))
                    clear hnx hno
                    go_wp2_with fail
                    go_quiet (fail)
                    go_wp2_with fail
                    exact ⟨⟨m + 1 + 1, by omega, by omega, by go_num, hR.out, _, rfl⟩, by simp [intOf]; omega⟩
                · have hge : (done.length : Int) ≤ (k : Int) := by omega
                  have hR := rising_all done (fun j x y hj hx hy => hup j x y (by omega) hx hy)
                  have hE0 := HE4.out
                  rw [hR, if_pos rfl] at hE0
                  have hS0 := HS4.out hE0
                  rw [hR, if_pos rfl] at hS0
                  have hV0 := HV1.out hE0
                  have HE0 := Lib.hid hE0
                  have HS0 := Lib.hid hS0
                  have HV0 := Lib.hid hV0
                  clear hE0 hS0 hV0 hR
                  go_wp2_with fail
                  go_ret3
                  refine ⟨A, cap, ?_, ?_, ?_, hk.drewN d⟩
                  · rw [HE0.out, HS0.out, HV0.out]
                    rfl
                  · rw [HS0.out]
                    exact hsec.kept ((Kept.refl _ _).drewN d)
                  · rw [HS0.out]
                    exact hlen
            | x :: t =>
              have hdl := hcome.2
              by_cases h4 : t.length < 4
              · have hz1 : (bs (x :: t)).size = t.length + 1 := by rw [bs_size]; rfl
                have h5 : (t.length : Int) + 1 < 5 := by omega
                have hE4 := HE2.out
                rw [(secE_none (come_short hcome h4)).1] at hE4
                have HB := Lib.hid (ParseOut.bad hE4 (by omega) hk)
                clear hE4 hown
                go_wp2_with fail
                go_ret3
                exact HB.out
              · obtain ⟨A4, u, htu, hA4⟩ : ∃ A4 u, t = A4 ++ u ∧ A4.length = 4 := ⟨t.take 4, t.drop 4, (List.take_append_drop 4 t).symm, by simp; omega⟩
                have tk : t.take 4 = A4 := by rw [htu, ← hA4]; exact List.take_left
                have dk : t.drop 4 = u := by rw [htu, ← hA4]; exact List.drop_left
                have hll2 : t.length = 4 + u.length := by rw [htu, List.length_append, hA4]
                have cl := fun h => come_long hcome (by omega) h
                have cn := fun h => come_next hcome (by omega) h
                rw [tk, hll2] at cl cn
                rw [dk] at cn
                have hz1 : (bs (x :: t)).size = 5 + u.length := by rw [bs_size, List.length_cons, hll2]; omega
                have hx15 : (bs (x :: t)).extract 1 5 = bs A4 := by
                  rw [bs_extract]
                  exact congrArg bs tk
                have hun : u.length ≤ 1000000 := by simp at hdl; omega
                have hdn : 5 * done.length ≤ 1000000 := by omega
                have hNlt := numU_lt A4
                rw [hA4] at hNlt
                have q3 := number_calls A4 wr (by omega)
                have wl1 : IntKind.u64.wrap (5 + (u.length : Int) - 5) = (u.length : Int) := by
                  rw [show 5 + (u.length : Int) - 5 = (u.length : Int) by omega]
                  exact u64_wrap_nat _ (by omega)
                have wl2 : IntKind.u64.wrap (u.length : Int) = (u.length : Int) := u64_wrap_nat _ (by omega)
                have h50 : ¬ (5 + (u.length : Int) < 5) := by omega
                have hx6 : ∀ n, (bs (x :: t)).extract (5 + n) (5 + u.length) = bs (u.drop n) := fun n => by
                  rw [← hz1, bs_drop, show 5 + n = n + 4 + 1 by omega, List.drop_succ_cons, ← dk, List.drop_drop, Nat.add_comm 4 n]
                have hx5 : ∀ n, (bs (x :: t)).extract 5 (5 + n) = bs (u.take n) := fun n => by
                  rw [bs_extract, show 5 + n - 5 = n by omega, List.drop_succ_cons, dk]
                clear htu tk dk hcome hdl hA4 h4 hll2
                generalize numU A4 = N at *
                by_cases hN : N ≤ u.length
                · have hc' := cn (by omega)
                  have hNd : decide ((u.length : Int) < (N : Int)) = false := by simp; omega
                  have hNe : decide (5 + (u.length : Int) - 5 < (N : Int)) = false := by simp; omega
                  have hD := hx5 N
                  have hRx := hx6 N
                  have hRl : (u.drop N).length ≤ u.length := by rw [List.length_drop]; omega
                  have tN : (5 + (N : Int)).toNat = 5 + N := by omega
                  have wN : IntKind.u64.wrap (5 + (N : Int)) = 5 + (N : Int) := by
                    have := u64_wrap_nat (5 + N) (by omega)
                    simpa using this
                  have hNi : (N : Int) ≤ (u.length : Int) := by omega
                  have h05 : (0 : Int) ≤ 5 + (N : Int) := by omega
                  have h55 : (5 : Int) ≤ 5 + (N : Int) := by omega
                  have h5u : 5 + (N : Int) ≤ 5 + (u.length : Int) := by omega
                  have hui : (u.length : Int) ≤ 1000000 := by omega
                  have i0 : ∀ h, ((bs (x :: t))[0]'h).toNat = x.toNat := fun _ => rfl
                  obtain ⟨j0, hj0, hy0, hy1, hy2⟩ := info_parts rsecInfo
                  have HJ := Lib.hid hj0
                  have HY0 := Lib.hid hy0
                  have HY1 := Lib.hid hy1
                  have HY2 := Lib.hid hy2
                  clear cl cn hx5 hx6 hN hj0 hy0 hy1 hy2
                  generalize u.take N = D at *
                  generalize u.drop N = R at *
                  generalize hxs : secC done = xs at *
                  have HXS := Lib.hid hxs
                  clear hxs
                  go_wp2_with fail
                  refine q3.mono ?_
                  rintro e w6 ⟨rfl, rfl⟩
                  go_wp2_with fail
                  refine wp_region_inv (by kernel_rfl) (by kernel_rfl) (Slots _ paD (paS (paV u7 x t D N) w.heap.size done.length xs x.toNat (bs D)) (paW w w.heap.size done.length xs u7)) (Slots.start ⟨hk.drew, fun h => by simp at h, fun _ => own_same hown (.of_kept (Kept.refl _ _).drew)⟩) ?_ ?_
                  · intro f a' wy hI i o ho hfi hall
                    have hi : i < 11 := (Array.getElem?_eq_some_iff.1 ho).1
                    have hW := hI.world
                    have hba : w.heap.size ≤ wy.heap.size := hW.1.size
                    rcases (by omega : i = 0 ∨ i = 1 ∨ i = 2 ∨ i = 3 ∨ i = 4 ∨ i = 5 ∨ i = 6 ∨ i = 7 ∨ i = 8 ∨ i = 9 ∨ i = 10) with rfl | rfl | rfl | rfl | rfl | rfl | rfl | rfl | rfl | rfl | rfl
                    all_goals
                      simp only [List.getElem?_toArray, List.getElem?_cons_zero, List.getElem?_cons_succ, Option.some.injEq] at ho
                      subst ho
                    · have fx : f 10 = false := by cases hx : f 10 <;> first | rfl | exact absurd (hW.2.1 hx).1 (by rw [hfi]; exact Bool.false_ne_true)
                      have e7 : a'.eval (.tmp 7) = u7 := (hI.fresh (k := 10) (d := 7) (by decide) fx).trans rfl
                      refine wp_value (w' := wy) ?_ (PA.step hI (d := 72) (by kernel_rfl) (by decide) rfl (by decide) (Kept.refl _ _))
                      (unfold execOp; simp only [List.map_toArray, List.map_cons, List.map_nil, e7]; (try simp [go_sem, e7]); try omega)
                    · have e8 : a'.eval (.tmp 8) = .string (bs (x :: t)) := hI.old (by decide)
                      refine wp_value (w' := wy) ?_ (PA.step hI (d := 73) (by kernel_rfl) (by decide) rfl (by decide) (Kept.refl _ _))
                      (unfold execOp; simp only [List.map_toArray, List.map_cons, List.map_nil, e8]; (try simp [go_sem, e8]); try omega)
                    · have f1 : f 1 = true := hall ⟨1, .data⟩ (by simp) rfl
                      have e73 : a'.eval (.tmp 73) = .string (bs (x :: t)) := hI.eval (k := 1) (d := 73) (by decide) f1
                      have re73 := e73
                      simp only [Act.eval, Array.getD_eq_getD_getElem?] at re73
                      refine wp_value (w' := wy) ?_ (PA.step hI (d := 74) (by kernel_rfl) (by decide) rfl (by decide) (Kept.refl _ _))
                      (unfold execOp; simp only [List.map_toArray, List.map_cons, List.map_nil, e73, re73, i0, hz1]; (try simp [go_sem, e73, re73, i0, hz1]); try omega)
                    · have e8 : a'.eval (.tmp 8) = .string (bs (x :: t)) := hI.old (by decide)
                      refine wp_value (w' := wy) ?_ (PA.step hI (d := 75) (by kernel_rfl) (by decide) rfl (by decide) (Kept.refl _ _))
                      (unfold execOp; simp only [List.map_toArray, List.map_cons, List.map_nil, e8]; (try simp [go_sem, e8]); try omega)
                    · have e9 : a'.eval (.tmp 9) = .int .u64 (N : Int) := hI.old (by decide)
                      refine wp_value (w' := wy) ?_ (PA.step hI (d := 76) (by kernel_rfl) (by decide) rfl (by decide) (Kept.refl _ _))
                      (unfold execOp; simp only [List.map_toArray, List.map_cons, List.map_nil, e9]; (try simp [go_sem, e9]); try omega)
                    · have f4 : f 4 = true := hall ⟨4, .data⟩ (by simp) rfl
                      have e76 : a'.eval (.tmp 76) = .int .u64 (N : Int) := hI.eval (k := 4) (d := 76) (by decide) f4
                      have re76 := e76
                      simp only [Act.eval, Array.getD_eq_getD_getElem?] at re76
                      refine wp_value (w' := wy) ?_ (PA.step hI (d := 77) (by kernel_rfl) (by decide) rfl (by decide) (Kept.refl _ _))
                      (unfold execOp; simp only [List.map_toArray, List.map_cons, List.map_nil, e76, re76, wN]; (try simp [go_sem, e76, re76, wN]); try omega)
                    · have f3 : f 3 = true := hall ⟨3, .data⟩ (by simp) rfl
                      have e75 : a'.eval (.tmp 75) = .string (bs (x :: t)) := hI.eval (k := 3) (d := 75) (by decide) f3
                      have f5 : f 5 = true := hall ⟨5, .data⟩ (by simp) rfl
                      have e77 : a'.eval (.tmp 77) = .int .u64 (5 + (N : Int)) := hI.eval (k := 5) (d := 77) (by decide) f5
                      have re75 := e75
                      simp only [Act.eval, Array.getD_eq_getD_getElem?] at re75
                      have re77 := e77
                      simp only [Act.eval, Array.getD_eq_getD_getElem?] at re77
                      refine wp_value (w' := wy) ?_ (PA.step hI (d := 78) (by kernel_rfl) (by decide) rfl (by decide) (Kept.refl _ _))
                      (unfold execOp; simp only [List.map_toArray, List.map_cons, List.map_nil, e75, e77, re75, re77, hD, tN, hz1, hNi, hui, h05, h55, h5u]; (try simp [go_sem, e75, e77, re75, re77, hD, tN, hz1, hNi, hui, h05, h55, h5u]); try omega)
                    · have f2 : f 2 = true := hall ⟨2, .data⟩ (by simp) rfl
                      have e74 : a'.eval (.tmp 74) = .int .u8 (x.toNat : Int) := hI.eval (k := 2) (d := 74) (by decide) f2
                      have f6 : f 6 = true := hall ⟨6, .data⟩ (by simp) rfl
                      have e78 : a'.eval (.tmp 78) = .string (bs D) := hI.eval (k := 6) (d := 78) (by decide) f6
                      have re74 := e74
                      simp only [Act.eval, Array.getD_eq_getD_getElem?] at re74
                      have re78 := e78
                      simp only [Act.eval, Array.getD_eq_getD_getElem?] at re78
                      refine wp_value (w' := wy) ?_ (PA.step hI (d := 79) (by kernel_rfl) (by decide) rfl (by decide) (Kept.refl _ _))
                      (unfold execOp; simp only [List.map_toArray, List.map_cons, List.map_nil, e74, e78, re74, re78]; (try simp [go_sem, e74, e78, re74, re78]); try omega)
                    · have f7 : f 7 = true := hall ⟨7, .data⟩ (by simp) rfl
                      have e79 : a'.eval (.tmp 79) = .agg #[.int .u8 (x.toNat : Int), .string (bs D)] := hI.eval (k := 7) (d := 79) (by decide) f7
                      have r79 := e79
                      simp only [Act.eval, Array.getD_eq_getD_getElem?] at r79
                      refine wp_value (w' := wy.alloc (.cells #[.int .u8 (x.toNat : Int), .string (bs D)] 108)) ?_ (PA.put hI (d := 80) (v := .slice (some ⟨wy.heap.size, 0, none⟩) 1 1) (by kernel_rfl) (by decide) (fun _ _ => ⟨_, rfl, Blk.new wy 108 [.int .u8 (x.toNat : Int), .string (bs D)]⟩) (fun e => absurd e (by decide)) ((Kept.refl _ _).alloc _))
                      (unfold execOp; simp only [List.map_toArray, List.map_cons, List.map_nil, e79, r79]; (try simp [go_sem, e79, r79]); try omega)
                    · have f0 : f 0 = true := hall ⟨0, .data⟩ (by simp) rfl
                      have e72 : a'.eval (.tmp 72) = u7 := hI.eval (k := 0) (d := 72) (by decide) f0
                      have f8 : f 8 = true := hall ⟨8, .data⟩ (by simp) rfl
                      have e80 := hI.eval (k := 8) (d := 80) (by decide) f8
                      obtain ⟨g8, e8x, hb8⟩ := e80 hfi
                      refine wp_append_lies _ (.tmp 72) (.tmp 80) 65 rfl w.heap.size 108 j0 (.agg #[.int .u8 0, .string ByteArray.empty]) 2 24 Try.underlying65 HJ.out HY0.out HY1.out HY2.out rfl (by decide) u7 done.length xs e72 (hW.2.2 hfi) ⟨g8, 0, none⟩ 1 1 [.int .u8 (x.toNat : Int), .string (bs D)] e8x rfl (World.news_of_block hb8) (one_sec _ _) (by decide) (by unfold maxLen; omega) (by omega) hba _ rfl ?_
                      intro g9 cap9 w9 own9 grow9 hat9 hlt9
                      refine hI.put (d := 81) (by kernel_rfl) (by decide) (paW_9 (Nat.le_refl _) hW hfi grow9) own9 (fun p hp hne hfp h => paS_keep (.inr ⟨rfl, fun e => absurd (hW.2.1 (by rw [← e]; exact hfp)).2 (by rw [hfi]; exact Bool.false_ne_true), hne⟩) h)
                    · have f9 : f 9 = true := hall ⟨9, .data⟩ (by simp) rfl
                      have e81 := hI.eval (k := 9) (d := 81) (by decide) f9
                      have fz : f 0 = true := hall ⟨0, .phase⟩ (by simp) rfl
                      exact wp_value rfl (PA.put hI (d := 7) (by kernel_rfl) (by decide) (fun _ => e81) (fun _ => ⟨fz, f9⟩) (Kept.refl _ _))
                  · intro f a' wy hf hI
                    have o7 : wy.ownsRow w.heap.size 108 2 (a'.tmps.getD 7 undef) (done.length + 1) (xs ++ [.int .u8 (x.toNat : Int), .string (bs D)]) := hI.slot (10, 7) (by decide) (hf 10 (by decide))
                    have ky := hI.world.1
                    have ho := hI.out
                    clear hI hf hown
                    simp only [paD, List.foldl_cons, List.foldl_nil] at ho
                    generalize a'.tmps.getD 72 undef = y72 at *
                    generalize a'.tmps.getD 73 undef = y73 at *
                    generalize a'.tmps.getD 74 undef = y74 at *
                    generalize a'.tmps.getD 75 undef = y75 at *
                    generalize a'.tmps.getD 76 undef = y76 at *
                    generalize a'.tmps.getD 77 undef = y77 at *
                    generalize a'.tmps.getD 78 undef = y78 at *
                    generalize a'.tmps.getD 79 undef = y79 at *
                    generalize a'.tmps.getD 80 undef = y80 at *
                    generalize a'.tmps.getD 81 undef = y81 at *
                    generalize a'.tmps.getD 7 undef = y7 at *
                    simp only [List.setIfInBounds_toArray, List.set_cons_zero, List.set_cons_succ] at ho
                    rw [ho]
                    clear ho
                    have own7 : wy.ownsRow w.heap.size 108 2 y7 (done ++ [(x, D)]).length (secC (done ++ [(x, D)])) := by
                      rw [secC_snoc, List.length_append, HXS.out]
                      exact o7
                    clear o7 q3
                    go_wp2_with fail
                    refine ⟨⟨done ++ [(x, D)], R, hc', rfl, own7, ky⟩, ?_⟩
                    show (bs R).size < (bs (x :: t)).size
                    rw [hz1, bs_size]
                    omega
                · have hE4 := HE2.out
                  rw [(secE_none (cl (by omega))).1] at hE4
                  have HB := Lib.hid (ParseOut.bad hE4 (by omega) hk)
                  have hNd : (u.length : Int) < (N : Int) := by omega
                  have hNe : 5 + (u.length : Int) - 5 < (N : Int) := by omega
                  clear hE4 hown cl cn hx5 hx6 hN
                  go_wp2_with (refine q3.mono ?_; rintro e w6 ⟨rfl, rfl⟩)
                  go_ret3
                  exact HB.out
        · have ht2 : ((bs S4).toList == (bs (sumL P)).toList) = false := by
            rw [bs_toListE, bs_toListE]
            cases hb : (S4 == sumL P)
            · rfl
            · exact absurd (eq_of_beq hb) hs4
          have hE := HE.out
          rw [if_pos hs4] at hE
          have HB := Lib.hid (fun w' (hk : Kept noB w w') => ParseOut.bad hE (by omega) hk)
          clear HE hE hs4
          go_wp2_with fail
          refine q1.mono ?_
          rintro e w6 ⟨rfl, rfl⟩
          go_wp2_with fail
          refine wp_region_quiet_below (by kernel_rfl) (by kernel_rfl) ?_
          repeat (first | go_big_quiet_step (with_reducible exact q2 _ _) | quiet_step (with_reducible exact q2 _ _))
          refine wpQuiet_nil ?_
          intro _ hw'
          obtain ⟨⟨dq, osq⟩, hw''⟩ := hw'
          subst hw''
          have kR := Kept.regrown w dq osq
          clear q1 q2 xa xb ht2
          generalize Sort.grow (redrawn w dq) osq = w5 at *
          go_wp2_with fail
          go_ret3
          exact HB.out _ kR
  · have ht : ((bs N4).toList == [71, 82, 68, 82]) = false := by
      rw [bs_toListE]
      cases hb : (N4 == [71, 82, 68, 82])
      · rfl
      · exact absurd (show N4 = magicL from eq_of_beq hb) hmag
    have hE : parseE l = 7 := by rw [HPE.out, if_pos hmag]
    have HB := Lib.hid (ParseOut.bad hE (by omega) (Kept.refl noB w))
    clear hE
    go_wp2_with fail
    go_ret3
    exact HB.out
theorem rparse_calls (l : List UInt8) (w : World) (hl : l.length ≤ 1000000) : Calls Try.prog 31 #[.string (bs l)] w (ParseOut w l) := by
  by_cases h : l.length < 13
  · exact rparse_short l w h
  · have e : l = l.take 4 ++ ([l.getD 4 0] ++ ((l.drop 5).take 4 ++ l.drop 9)) := by
      have e1 : l.drop 9 = (l.drop 5).drop 4 := by rw [List.drop_drop]
      have e2 : l.drop 4 = l.getD 4 0 :: l.drop 5 := by
        rw [List.drop_eq_getElem_cons (by omega), List.getD_eq_getElem?_getD, List.getElem?_eq_getElem (by omega)]
        rfl
      rw [e1, List.take_append_drop]
      conv => lhs; rw [← List.take_append_drop 4 l, e2]
      rfl
    rw [e]
    exact rparse_long _ _ _ (by simp; omega) (by simp; omega) _ w (by simp; omega) (by simp; omega)
end Go.Proofs.Ytclnginkplhlhaa

