/- The walk of girderlaw21.TlvParses. Condition: the text's length. -/
import Derived.Test.YtclnginkplhlhaaTlv9
import Derived.Test.YtclnginkplhlhaaTlv10
import Derived.Test.YtclnginkplhlhaaTlv11
namespace Go.Proofs.Ytclnginkplhlhaa
open Go.RowKit
attribute [local go_sem high] zero_run
attribute [local simp] zero_ne
theorem secs_small (l : List UInt8) (hl : l.length ≤ 200) : (encSecs (parseS l)).length ≤ 1000000 := by
  by_cases h : parseE l = 0
  · obtain ⟨h1, h2⟩ := build_parse l h
    have e : buildL (parseV l) (parseS l) = imageL (parseV l) (encSecs (parseS l)) := by simp [buildL, h1]
    have := congrArg List.length (e.symm.trans h2)
    rw [imageL_length] at this
    omega
  · rw [parseS, if_pos h]
    simp [encSecs]
set_option maxRecDepth 100000 in
set_option maxHeartbeats 8000000 in
/-- behind the text: what both hand back, and back again -/
theorem tlvParses_walk (l0 : List UInt8) (right : Bool) (w : World) (hl0 : (l0.length : Int) ≤ 140737488351232) :
    Calls Try.prog 8 #[.string (bs l0), .bool right] w fun e w' => e = .returned (.bool true) ∧ Kept noB w w' := by
  have hz0 : ((bs l0).size : Int) = (l0.length : Int) := by rw [bs_size]
  have key : ∃ m : List UInt8, m.length ≤ 120 ∧ ((120 < (bs l0).size ∧ (bs l0).extract 0 120 = bs m) ∨ ((bs l0).size ≤ 120 ∧ (bs l0).extract 0 (bs l0).size = bs m)) := by
    by_cases h : 120 < (bs l0).size
    · exact ⟨l0.take 120, by simp; omega, .inl ⟨h, bs_take l0 120⟩⟩
    · refine ⟨l0, by rw [bs_size] at h; omega, .inr ⟨by omega, ?_⟩⟩
      rw [bs_size, bs_take, List.take_length]
  obtain ⟨l, hl, hcase⟩ := key
  have hsz : ((bs l0).size : Int) ≤ 140737488351232 := by omega
  clear hz0 hl0
  cases right with
  | false =>
    have q1 := fun w => parse_calls l w (by omega)
    have q2 := fun w => rparse_calls l w (by omega)
    unfold ParseOut at q1 q2
    have hbp := fun h => build_parse l h
    have hsm := secs_small l (by omega)
    generalize parseE l = E at *
    generalize parseV l = V at *
    generalize parseS l = S at *
    have Q1 := Lib.hid q1
    have Q2 := Lib.hid q2
    have HBP := Lib.hid hbp
    have HSM := Lib.hid hsm
    clear q1 q2 hbp hsm
    rcases hcase with ⟨hlt, hx⟩ | ⟨hlt, hx⟩
    all_goals
      go_enter Try.func8, Try.ntmps8
      go_wp2_with fail
      refine (speaks21 _).mono ?_
      rintro e w1 ⟨rfl, k1⟩
      go_wp2_with fail
      refine (Q1.out _).mono ?_
      rintro e w2 ⟨A, c, rfl, s1, hn, k2⟩
      have K2 := k1.no k2
      have S1 := Lib.hid s1
      have HN := Lib.hid hn
      clear s1 hn k1 k2
      go_wp2_with fail
      refine (Q2.out _).mono ?_
      rintro e w3 ⟨A2, c2, rfl, s2, -, k3⟩
      have K3 := K2.no k3
      have S2 := Lib.hid s2
      have S3 := Lib.hid (S1.out.kept k3)
      clear s2 k3 K2 S1
      go_wp2_with fail
      refine (same_calls S A A2 c c2 _ S3.out S2.out HN.out).mono ?_
      rintro e w4 ⟨rfl, d, rfl⟩
      have K4 := K3.drewN d
      have S4 := Lib.hid (S3.out.kept ((Kept.refl _ w3).drewN d))
      clear S3 S2 K3
      generalize w3.drewN d = w4 at *
      by_cases h0 : E = 0
      · obtain ⟨b0, b1⟩ := HBP.out h0
        have q4 := build_calls V S A c w4 S4.out HN.out HSM.out
        rw [b0, b1] at q4
        have Q4 := Lib.hid q4
        subst h0
        clear q4 b0 b1
        go_wp2_with fail
        refine Q4.out.mono ?_
        rintro e w5 ⟨rfl, k5⟩
        go_wp2_with fail
        go_ret
        exact ⟨rfl, K4.no k5⟩
      · obtain ⟨i1, i2, i3, i4⟩ := ne_forms E h0
        go_wp2_with fail
        go_ret
        exact ⟨rfl, K4⟩
  | true =>
    have hst := store_tab
    have hvl := vw_tab_len
    have hC := fun g w (ht : Tab w g) => sum_calls g l w ht (by omega)
    have hlt := crcSum_lt l
    obtain ⟨L, hL⟩ : ∃ L, l ++ sumL l = L := ⟨_, rfl⟩
    have hLl : L.length ≤ 124 := by rw [← hL, List.length_append]; have : (sumL l).length = 4 := rfl; omega
    have q1 := fun w => parse_calls L w (by omega)
    have q2 := fun w => rparse_calls L w (by omega)
    unfold ParseOut at q1 q2
    have hbp := fun h => build_parse L h
    have hsm := secs_small L (by omega)
    generalize parseE L = E at *
    generalize parseV L = V at *
    generalize parseS L = S at *
    unfold sumL at hL
    generalize crcSum l = n at *
    have hcat : bs l ++ bs (le4 n) = bs L := by rw [bs_append, hL]
    have e4 := le4_str n hlt
    have z4 : (bs (le4 n)).size = 4 := by rw [bs_size]; rfl
    have zl : (bs l).size = l.length := bs_size l
    have ov : ¬ 9223372036854775807 < l.length + 4 := by omega
    have Q1 := Lib.hid q1
    have Q2 := Lib.hid q2
    have HBP := Lib.hid hbp
    have HSM := Lib.hid hsm
    clear q1 q2 hbp hsm hL
    rcases hcase with ⟨hlt2, hx⟩ | ⟨hlt2, hx⟩
    all_goals
      go_enter Try.func8, Try.ntmps8
      go_wp2_with fail
      refine (speaks21 _).mono ?_
      rintro e w0 ⟨rfl, k0⟩
      go_wp2_with fail
      refine (make_calls _).mono ?_
      rintro e wm ⟨rfl, hkm⟩
      go_wp2_with fail
      clear hst hvl hx hlt2 hsz
      have ht := tab_new wm
      have hk := (k0.no hkm).alloc (.cells (vw (tabN 256)).toArray 75)
      generalize wm.alloc (.cells (vw (tabN 256)).toArray 75) = wn at *
      refine (hC wm.heap.size wn ht).mono ?_
      rintro e wo ⟨rfl, d0, rfl⟩
      have hc : ∀ a b c e : Int, (convert 79 9 (.slice (some ⟨wn.heap.size, 0, none⟩) 4 4)).run Try.prog ((wn.drewN d0).alloc (.cells #[.int .u8 a, .int .u8 b, .int .u8 c, .int .u8 e] 5)) = .ok (.string (strOfNums [a, b, c, e])) ((wn.drewN d0).alloc (.cells #[.int .u8 a, .int .u8 b, .int .u8 c, .int .u8 e] 5)) := fun a b c e => run_string4 (wn.drewN d0) a b c e
      have k1a := fun a b c e => (hk.drewN d0).alloc (.cells #[.int .u8 a, .int .u8 b, .int .u8 c, .int .u8 e] 5)
      have K1A := Lib.hid k1a
      clear k1a hC ht hkm k0
      go_wp2_with fail
      have k1 := K1A.out ((n : Int) % 256) ((n : Int) / 256 % 256) ((n : Int) / 65536 % 256) ((n : Int) / 16777216)
      clear hc e4 hcat
      generalize (wn.drewN d0).alloc (.cells #[.int .u8 ((n : Int) % 256), .int .u8 ((n : Int) / 256 % 256), .int .u8 ((n : Int) / 65536 % 256), .int .u8 ((n : Int) / 16777216)] 5) = w1 at *
      refine (Q1.out _).mono ?_
      rintro e w2 ⟨A, c, rfl, s1, hn, k2⟩
      have K2 := k1.no k2
      have S1 := Lib.hid s1
      have HN := Lib.hid hn
      clear s1 hn k1 k2
      go_wp2_with fail
      refine (Q2.out _).mono ?_
      rintro e w3 ⟨A2, c2, rfl, s2, -, k3⟩
      have K3 := K2.no k3
      have S2 := Lib.hid s2
      have S3 := Lib.hid (S1.out.kept k3)
      clear s2 k3 K2 S1
      go_wp2_with fail
      refine (same_calls S A A2 c c2 _ S3.out S2.out HN.out).mono ?_
      rintro e w4 ⟨rfl, d, rfl⟩
      have K4 := K3.drewN d
      have S4 := Lib.hid (S3.out.kept ((Kept.refl _ w3).drewN d))
      clear S3 S2 K3
      generalize w3.drewN d = w4 at *
      by_cases h0 : E = 0
      · obtain ⟨b0, b1⟩ := HBP.out h0
        have q4 := build_calls V S A c w4 S4.out HN.out HSM.out
        rw [b0, b1] at q4
        have Q4 := Lib.hid q4
        subst h0
        clear q4 b0 b1
        go_wp2_with fail
        refine Q4.out.mono ?_
        rintro e w5 ⟨rfl, k5⟩
        go_wp2_with fail
        go_ret
        exact ⟨rfl, K4.no k5⟩
      · obtain ⟨i1, i2, i3, i4⟩ := ne_forms E h0
        go_wp2_with fail
        go_ret
        exact ⟨rfl, K4⟩
end Go.Proofs.Ytclnginkplhlhaa
