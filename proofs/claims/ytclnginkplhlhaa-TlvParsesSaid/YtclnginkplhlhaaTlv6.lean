/- The walk of tlv.Parse. Condition: the text's length. -/
import Derived.Test.YtclnginkplhlhaaTlv5
import Derived.Test.YtclnginkplhlhaaTlv3
namespace Go.Proofs.Ytclnginkplhlhaa
open Go.RowKit
/-- what Parse hands back -/
def ParseOut (w0 : World) (l : List UInt8) (e : Ending) (w' : World) : Prop :=
  ∃ A cap, e = .returned (.tuple #[.int .u8 (parseV l : Nat), .slice A (parseS l).length cap, .int .i64 (parseE l : Nat)]) ∧ SecAt w' A (parseS l) ∧ (parseS l).length ≤ maxLen ∧ Kept noB w0 w'
theorem ParseOut.bad {w0 w' : World} {l : List UInt8} {E : Nat} (hE : parseE l = E) (h0 : E ≠ 0) (hk : Kept noB w0 w') : ParseOut w0 l (.returned (.tuple #[.int .u8 0, .slice none 0 0, .int .i64 (E : Int)])) w' := by
  have hS : parseS l = [] := by simp [parseS, hE, h0]
  have hV : parseV l = 0 := by simp [parseV, hE, h0]
  refine ⟨none, 0, ?_, ?_, ?_, hk⟩
  · rw [hS, hV, hE]; rfl
  · rw [hS]; exact .inl rfl
  · rw [hS]; exact Nat.zero_le _
set_option maxRecDepth 100000 in
set_option maxHeartbeats 4000000 in
theorem parse_short (l : List UInt8) (w : World) (hl : l.length < 13) : Calls Try.prog 27 #[.string (bs l)] w (ParseOut w l) := by
  have hE : parseE l = 2 := by simp [parseE, hl]
  have HB := Lib.hid (fun w' (hk : Kept noB w w') => ParseOut.bad hE (by omega) hk)
  clear hE
  go_enter Try.func27, Try.ntmps27
  go_wp2_with fail
  refine (read_s (Kept.refl noB w) l (by omega)).mono ?_
  rintro e w1 ⟨g, rfl, hr1⟩
  go_wp2_with fail
  refine (sraw hr1 4).mono ?_
  rintro e w2 ⟨rfl, hr2, -⟩
  have l2 := rawRest_le l false 4
  generalize rawOut l false 4 = nm at *
  generalize rawRest l false 4 = r2 at *
  generalize rawBad l false 4 = b2 at *
  go_wp2_with fail
  refine (snum hr2 1 (by omega) (by omega)).mono ?_
  rintro e w3 ⟨rfl, hr3, -⟩
  have l3 := rawRest_le r2 b2 1
  generalize numU (rawOut r2 b2 1) = v at *
  generalize rawRest r2 b2 1 = r3 at *
  generalize rawBad r2 b2 1 = b3 at *
  go_wp2_with fail
  refine (snum hr3 4 (by omega) (by omega)).mono ?_
  rintro e w4 ⟨rfl, hr4, -⟩
  have l4 := rawRest_le r3 b3 4
  generalize numU (rawOut r3 b3 4) = n at *
  generalize rawRest r3 b3 4 = r4 at *
  generalize rawBad r3 b3 4 = b4 at *
  go_wp2_with fail
  refine (left_s hr4).mono ?_
  rintro e w5 ⟨rfl, rfl⟩
  have hk := hr4.2.1
  clear hr1 hr2 hr3 hr4
  have hz : (bs l).size < 13 := by rw [bs_size]; exact hl
  go_wp2_with fail
  · go_ret3
    exact HB.out _ hk
  · go_ret3
    exact HB.out _ hk
theorem parse_eq (N4 M4 rs : List UInt8) (v : UInt8) (hN4 : N4.length = 4) (hM4 : M4.length = 4) (hl4 : 4 ≤ rs.length) (l : List UInt8) (hL : N4 ++ ([v] ++ (M4 ++ rs)) = l) :
    parseE l = (if N4 ≠ magicL then 7 else if !goodV v.toNat then 8 else if rs.length - 4 < numU M4 then 2 else if numU M4 < rs.length - 4 then 3 else
      if l.drop (l.length - 4) ≠ sumL (l.take (l.length - 4)) then 5 else secE (bodyL l)) ∧ l.getD 4 0 = v := by
  have hll : l.length = 9 + rs.length := by rw [← hL]; simp [hN4, hM4]; omega
  have t4 : l.take 4 = N4 := by rw [← hL, ← hN4]; exact List.take_left
  have g4 : l.getD 4 0 = v := by
    rw [← hL, List.getD_eq_getElem?_getD, List.getElem?_append_right (by omega), hN4]
    rfl
  have d5 : (l.drop 5).take 4 = M4 := by
    have : l.drop 5 = M4 ++ rs := by
      rw [← hL, show (5 : Nat) = N4.length + 1 by omega, ← List.drop_drop, List.drop_left]
      rfl
    rw [this, ← hM4]
    exact List.take_left
  refine ⟨?_, g4⟩
  rw [parseE, if_neg (by omega), t4, g4, d5, hll, show 9 + rs.length - 13 = rs.length - 4 by omega]
theorem parse_parts (N4 M4 B S4 : List UInt8) (v : UInt8) (hN4 : N4.length = 4) (hM4 : M4.length = 4) (hS4 : S4.length = 4) (l : List UInt8) (hL : N4 ++ ([v] ++ (M4 ++ (B ++ S4))) = l) :
    l.drop (l.length - 4) = S4 ∧ l.take (l.length - 4) = N4 ++ ([v] ++ (M4 ++ B)) ∧ bodyL l = B ∧ (N4 ++ ([v] ++ (M4 ++ B))).length = 9 + B.length := by
  have hll : l.length = 13 + B.length := by rw [← hL]; simp [hN4, hM4, hS4]; omega
  have hP : (N4 ++ ([v] ++ (M4 ++ B))).length = 9 + B.length := by simp [hN4, hM4]; omega
  have e : l = (N4 ++ ([v] ++ (M4 ++ B))) ++ S4 := by rw [← hL]; simp
  have e13 : l.length - 4 = (N4 ++ ([v] ++ (M4 ++ B))).length := by omega
  refine ⟨?_, ?_, ?_, hP⟩
  · rw [e13, e, List.drop_left]
  · rw [e13]
    conv => lhs; rw [e]
    rw [List.take_left]
  · have : l.drop 9 = B ++ S4 := by
      have e9 : l = (N4 ++ ([v] ++ M4)) ++ (B ++ S4) := by rw [← hL]; simp
      have l9 : (N4 ++ ([v] ++ M4)).length = 9 := by simp [hN4, hM4]
      rw [e9, ← l9, List.drop_left]
    rw [bodyL, this, hll, show 13 + B.length - 13 = B.length by omega, List.take_left]
set_option maxRecDepth 100000 in
set_option maxHeartbeats 4000000 in
theorem parse_long (N4 M4 : List UInt8) (v : UInt8) (hN4 : N4.length = 4) (hM4 : M4.length = 4) (rs : List UInt8) (w : World) (hl : rs.length ≤ 1000000) (hl4 : 4 ≤ rs.length) : Calls Try.prog 27 #[.string (bs (N4 ++ ([v] ++ (M4 ++ rs))))] w (ParseOut w (N4 ++ ([v] ++ (M4 ++ rs)))) := by
  have hll : (N4 ++ ([v] ++ (M4 ++ rs))).length = 9 + rs.length := by simp [hN4, hM4]; omega
  have hz : 13 ≤ (bs (N4 ++ ([v] ++ (M4 ++ rs)))).size := by rw [bs_size, hll]; omega
  generalize hL : N4 ++ ([v] ++ (M4 ++ rs)) = l at *
  obtain ⟨hPE, hg4⟩ := parse_eq N4 M4 rs v hN4 hM4 hl4 l hL
  have HPE := Lib.hid hPE
  have HG4 := Lib.hid hg4
  have HL := Lib.hid hL
  clear hPE hg4
  have n1 : numU [v] = v.toNat := by simp [numU]
  have hx8 := u8_wrap v
  clear hL
  go_enter Try.func27, Try.ntmps27
  go_wp2_with fail
  refine (read_s (Kept.refl noB w) l (by omega)).mono ?_
  rintro e w1 ⟨g, rfl, hr1⟩
  rw [← HL.out] at hr1
  have q2 := srawA N4 ([v] ++ (M4 ++ rs)) hr1 4 (by rw [hN4]; rfl)
  clear hr1
  go_wp2_with fail
  refine q2.mono ?_
  rintro e w2 ⟨rfl, hr2, -⟩
  have q3 := snumA [v] (M4 ++ rs) hr2 1 rfl (by omega) (by omega)
  rw [n1] at q3
  clear hr2 q2
  go_wp2_with fail
  refine q3.mono ?_
  rintro e w3 ⟨rfl, hr3, -⟩
  have q4 := snumA M4 rs hr3 4 (by rw [hM4]; rfl) (by omega) (by omega)
  clear hr3 q3 n1
  generalize hNe : numU M4 = N at *
  go_wp2_with fail
  refine q4.mono ?_
  rintro e w4 ⟨rfl, hr4, -⟩
  have q5 := left_s hr4
  clear q4
  go_wp2_with fail
  refine q5.mono ?_
  rintro e w5 ⟨rfl, rfl⟩
  clear q5
  have hk5 := hr4.2.1
  by_cases hmag : N4 = magicL
  · have ht : ((bs N4).toList == [71, 82, 68, 82]) = true := by rw [bs_toListE, hmag]; rfl
    have hPE := HPE.out
    rw [if_neg (by simpa using hmag)] at hPE
    have HPE := Lib.hid hPE
    clear hPE hmag
    have q6 := tgood_calls v.toNat w4
    cases hg : goodV v.toNat with
    | false =>
      have hE : parseE l = 8 := by rw [HPE.out, hg]; rfl
      have HB := Lib.hid (ParseOut.bad hE (by omega) hk5)
      rw [hg] at q6
      clear hE hr4
      go_wp2_with (refine q6.mono ?_; rintro e w6 ⟨rfl, rfl⟩)
      go_ret3
      exact HB.out
    | true =>
      rw [hg] at q6
      rcases (show rs.length - 4 < N ∨ N < rs.length - 4 ∨ N = rs.length - 4 by omega) with h1 | h1 | h1
      · have hE : parseE l = 2 := by rw [HPE.out, hg, if_neg (by simp), if_pos h1]
        have HB := Lib.hid (ParseOut.bad hE (by omega) hk5)
        have h1' : (rs.length : Int) - 4 < (N : Int) := by omega
        clear hE hr4
        go_wp2_with (refine q6.mono ?_; rintro e w6 ⟨rfl, rfl⟩)
        go_ret3
        exact HB.out
      · have hE : parseE l = 3 := by rw [HPE.out, hg, if_neg (by simp), if_neg (by omega), if_pos h1]
        have HB := Lib.hid (ParseOut.bad hE (by omega) hk5)
        have h1' : (N : Int) < (rs.length : Int) - 4 := by omega
        have h1d : decide ((rs.length : Int) - 4 < (N : Int)) = false := by simp; omega
        clear hE hr4
        go_wp2_with (refine q6.mono ?_; rintro e w6 ⟨rfl, rfl⟩)
        go_ret3
        exact HB.out
      · have h1d : decide ((rs.length : Int) - 4 < (N : Int)) = false := by simp; omega
        have h2d : decide ((N : Int) < (rs.length : Int) - 4) = false := by simp; omega
        obtain ⟨B, S4, hrs, hB⟩ : ∃ B S4, rs = B ++ S4 ∧ B.length = N := ⟨rs.take N, rs.drop N, (List.take_append_drop N rs).symm, by simp; omega⟩
        have hS4 : S4.length = 4 := by have := congrArg List.length hrs; rw [List.length_append] at this; omega
        have hLL := HL.out
        rw [hrs] at hLL
        obtain ⟨p1, p2, p3, p4⟩ := parse_parts N4 M4 B S4 v hN4 hM4 hS4 l hLL
        have wn : IntKind.i64.wrap (N : Int) = (N : Int) := i64_wrap_nat _ (by omega)
        have q7 := srawA B S4 (by rw [hrs] at hr4; exact hr4) N (by rw [hB])
        have hsz : (bs B).size = N := by rw [bs_size, hB]
        have hlz : (bs l).size = 13 + N := by rw [bs_size, hll]; omega
        have hE := HPE.out
        rw [hg, if_neg (by simp), if_neg (by omega), if_neg (by omega), p1, p2, p3] at hE
        generalize N4 ++ ([v] ++ (M4 ++ B)) = P at *
        have hx : (bs l).extract 0 (9 + N) = bs P := by rw [bs_take, ← p2]; congr 2; omega
        have HE := Lib.hid hE
        have HP3 := Lib.hid p3
        have hN6 : N ≤ 1000000 := by omega
        have hN6' : (N : Int) ≤ 1000000 := by omega
        have ht9 : (9 + (N : Int)).toNat = 9 + N := by omega
        clear HL HPE hE hrs hLL p1 p2 p3 hr4 hll h1
        go_wp2_with fail
        refine q6.mono ?_
        rintro e w6 ⟨rfl, rfl⟩
        clear q6
        go_wp2_with fail
        refine q7.mono ?_
        rintro e w6 ⟨rfl, hr6, hk6⟩
        clear q7 hk6
        go_wp2_with fail
        refine (tsum_calls P w6 (by omega)).mono ?_
        rintro e w7 ⟨rfl, k7⟩
        have q8 := srawA S4 [] (by rw [List.append_nil]; exact hr6.kept k7) 4 (by rw [hS4]; rfl)
        clear hr6 k7
        go_wp2_with fail
        refine q8.mono ?_
        rintro e w8 ⟨rfl, hr8, -⟩
        have k8 := hr8.2.1
        clear q8 hr8
        by_cases hs4 : S4 = sumL P
        · have ht2 : ((bs (sumL P)).toList == (bs S4).toList) = true := by rw [bs_toListE, bs_toListE, hs4]; simp
          have hE := HE.out
          rw [if_neg (by simpa using hs4)] at hE
          have q9 := sections_calls B w8 (by omega)
          have hV : parseE l = 0 → parseV l = v.toNat := fun h => by rw [parseV, if_neg (by simpa using h), HG4.out]
          have hS : parseE l = 0 → parseS l = secS B := fun h => by rw [parseS, if_neg (by simpa using h), HP3.out]
          have hbad := fun hne w' (hk : Kept noB w w') => ParseOut.bad (w' := w') hE hne hk
          have HE2 := Lib.hid hE
          have HV := Lib.hid hV
          have HS := Lib.hid hS
          have HB := Lib.hid hbad
          clear HE hE hV hS hbad hs4 HP3 HG4
          generalize secE B = E at *
          generalize secS B = Sx at *
          go_wp2_with fail
          refine q9.mono ?_
          rintro e w9 ⟨A, cap, rfl, hsec, hlen, k9⟩
          have kz := k8.no k9
          by_cases h0 : E = 0
          · subst h0
            go_wp2_with fail
            go_ret3
            refine ⟨A, cap, ?_, ?_, ?_, kz⟩
            · rw [HV.out HE2.out, HS.out HE2.out, HE2.out]
              rfl
            · rw [HS.out HE2.out]
              exact hsec
            · rw [HS.out HE2.out]
              exact hlen
          · have h0' : ¬ ((E : Int) = 0) := by omega
            have h0d : decide ((E : Int) = 0) = false := by simpa using h0
            have h0e : ((E : Int) == 0) = false := by simpa using h0
            go_wp2_with fail
            go_ret3
            exact HB.out h0 _ kz
        · have ht2 : ((bs (sumL P)).toList == (bs S4).toList) = false := by
            rw [bs_toListE, bs_toListE]
            cases hb : (sumL P == S4)
            · rfl
            · exact absurd (eq_of_beq hb).symm hs4
          have hE := HE.out
          rw [if_pos hs4] at hE
          have HB := Lib.hid (ParseOut.bad hE (by omega) k8)
          clear HE hE hs4
          go_wp2_with fail
          go_ret3
          exact HB.out
  · have ht : ((bs N4).toList == [71, 82, 68, 82]) = false := by
      rw [bs_toListE]
      cases hb : (N4 == [71, 82, 68, 82])
      · rfl
      · exact absurd (show N4 = magicL from eq_of_beq hb) hmag
    have hE : parseE l = 7 := by rw [HPE.out, if_pos hmag]
    have HB := Lib.hid (ParseOut.bad hE (by omega) hk5)
    clear hE hr4
    go_wp2_with fail
    go_ret3
    exact HB.out
theorem parse_calls (l : List UInt8) (w : World) (hl : l.length ≤ 1000000) : Calls Try.prog 27 #[.string (bs l)] w (ParseOut w l) := by
  by_cases h : l.length < 13
  · exact parse_short l w h
  · have e : l = l.take 4 ++ ([l.getD 4 0] ++ ((l.drop 5).take 4 ++ l.drop 9)) := by
      have e1 : l.drop 9 = (l.drop 5).drop 4 := by rw [List.drop_drop]
      have e2 : l.drop 4 = l.getD 4 0 :: l.drop 5 := by
        rw [List.drop_eq_getElem_cons (by omega), List.getD_eq_getElem?_getD, List.getElem?_eq_getElem (by omega)]
        rfl
      rw [e1, List.take_append_drop]
      conv => lhs; rw [← List.take_append_drop 4 l, e2]
      rfl
    rw [e]
    exact parse_long _ _ _ (by simp; omega) (by simp; omega) _ w (by simp; omega) (by simp; omega)
end Go.Proofs.Ytclnginkplhlhaa
