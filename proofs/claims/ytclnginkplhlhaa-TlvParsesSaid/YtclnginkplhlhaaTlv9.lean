/- The walks of girderlaw21.speaks and TlvBuilds. Condition: the number of sections. -/
import Derived.Test.YtclnginkplhlhaaTlv4
import Derived.Test.YtclnginkplhlhaaTlv6
import Derived.Test.YtclnginkplhlhaaTlv7
import Derived.Test.YtclnginkplhlhaaTlv8
namespace Go.Proofs.Ytclnginkplhlhaa
open Go.RowKit
theorem cut_enc : ∀ l : List Sec, (encSecs (cutS l)).length ≤ 45 * l.length
  | [] => by simp [cutS, encSecs]
  | x :: l => by
    have h := cut_enc l
    have e : encSecs (cutS (x :: l)) = encSec (x.1, x.2.take 40) ++ encSecs (cutS l) := by simp [encSecs, cutS]
    rw [e, List.length_append, encSec_length, List.length_cons]
    have : (x.2.take 40).length ≤ 40 := by rw [List.length_take]; omega
    simp only at this ⊢
    omega
theorem cut_mem (l : List Sec) : ∀ x ∈ cutS l, x.2.length < 4294967296 := by
  intro x hx
  obtain ⟨y, _, rfl⟩ := List.mem_map.1 hx
  simp
  omega
theorem cut_size (l : List Sec) : (encSecs (cutS (l.take 8))).length ≤ 360 := by
  have := cut_enc (l.take 8)
  have : (l.take 8).length ≤ 8 := by rw [List.length_take]; omega
  omega
theorem cut_count (l : List Sec) : (cutS (l.take 8)).length ≤ maxLen := by
  unfold cutS maxLen
  simp
  omega
theorem buildL_len (v : Nat) (l : List Sec) : (buildL v l).length ≤ (encSecs l).length + 13 := by
  unfold buildL
  split
  · simp
  · rw [imageL_length]
    exact Nat.le_refl _
set_option maxRecDepth 100000 in
set_option maxHeartbeats 2000000 in
theorem speaks21 (w : World) : Calls Try.prog 23 #[] w fun e w' => e = .returned (.bool true) ∧ Kept noB w w' := by
  have hb0 : buildE 1 [] = 0 := rfl
  have hpb := parse_build 1 [] rfl (by simp) (by simp [encSecs])
  have hlen : (buildL 1 []).length = 13 := by
    have : buildL 1 [] = imageL 1 [] := rfl
    rw [this, imageL_length]
    rfl
  have q1 : ∀ w, Calls Try.prog 25 #[.int .u8 1, .slice none 0 0] w fun e w' => e = .returned (.tuple #[.string (bs (buildL 1 [])), .int .i64 0]) ∧ Kept noB w w' := fun w => build_calls 1 [] none 0 w (.inl rfl) (Nat.zero_le _) (by simp [encSecs])
  have q2 := fun w => parse_calls (buildL 1 []) w (by omega)
  unfold ParseOut at q2
  rw [hpb.1, hpb.2.1, hpb.2.2] at q2
  have hz : (bs (buildL 1 [])).size = 13 := by rw [bs_size]; exact hlen
  have Q1 := Lib.hid q1
  have Q2 := Lib.hid q2
  clear q1 q2 hpb hb0 hlen
  generalize buildL 1 [] = L at *
  go_enter Try.func23, Try.ntmps23
  go_wp2_with fail
  refine (Q1.out _).mono ?_
  rintro e w1 ⟨rfl, k1⟩
  go_wp2_with fail
  refine (Q2.out _).mono ?_
  rintro e w2 ⟨A, cap, rfl, _, _, k2⟩
  go_wp2_with fail
  go_ret
  exact ⟨rfl, k1.no k2⟩
set_option maxRecDepth 100000 in
set_option maxHeartbeats 4000000 in
theorem tlvBuilds_walk (v : Nat) (_hv : v < 256) (l : List Sec) (A : Option Addr) (cap : Nat) (w : World) (hA : SecAt w A l) (hn : l.length ≤ maxLen) :
    Calls Try.prog 7 #[.int .u8 v, .slice A l.length cap] w fun e w' => e = .returned (.bool true) ∧ Kept noB w w' := by
  have hsz := cut_size l
  have hcn := cut_count l
  have hcm := cut_mem (l.take 8)
  have q2 := fun w h => both_calls l A cap w h hn
  generalize cutS (l.take 8) = cs at *
  have hbl := buildL_len v cs
  have q3 := fun A c w h => build_calls v cs A c w h hcn (by omega)
  have q4 := fun A c w h => rbuild_calls v cs A c w h hcn (by omega)
  have q5 := fun w => parse_calls (buildL v cs) w (by omega)
  have hpb := fun h => parse_build v cs h hcm (by omega)
  have q6 := fun A B c d w ha hb => same_calls cs A B c d w ha hb hcn
  unfold ParseOut at q5
  have Q2 := Lib.hid q2
  have Q3 := Lib.hid q3
  have Q4 := Lib.hid q4
  have Q5 := Lib.hid q5
  have Q6 := Lib.hid q6
  have HPB := Lib.hid hpb
  have HA := Lib.hid hA
  clear q2 q3 q4 q5 q6 hpb hcm hbl hsz hcn hA
  generalize buildL v cs = L at *
  generalize buildE v cs = E at *
  go_enter Try.func7, Try.ntmps7
  go_wp2_with fail
  refine (speaks21 _).mono ?_
  rintro e w1 ⟨rfl, k1⟩
  go_wp2_with fail
  refine (Q2.out _ (HA.out.kept k1)).mono ?_
  rintro e w2 ⟨A1, c1, A2, c2, rfl, s1, s2, k2⟩
  have K2 := k1.no k2
  have S2 := Lib.hid s2
  have S1 := Lib.hid s1
  clear k1 k2 s1 s2
  go_wp2_with fail
  refine (Q3.out _ _ _ S1.out).mono ?_
  rintro e w3 ⟨rfl, k3⟩
  have S2' := Lib.hid (S2.out.kept k3)
  have K3 := K2.no k3
  clear S1 S2 K2 k3
  go_wp2_with fail
  refine (Q4.out _ _ _ S2'.out).mono ?_
  rintro e w4 ⟨rfl, k4⟩
  have S3 := Lib.hid (S2'.out.kept k4)
  have K4 := K3.no k4
  clear S2' K3 k4
  by_cases h0 : E = 0
  · subst h0
    obtain ⟨p1, p2, p3⟩ := HPB.out rfl
    have q5 := Q5.out
    rw [p1, p2, p3] at q5
    have Q5' := Lib.hid q5
    clear Q5 q5 p1 p2 p3
    go_wp2_with fail
    refine (Q5'.out _).mono ?_
    rintro e w5 ⟨A5, c5, rfl, s5, _, k5⟩
    have S4 := Lib.hid (S3.out.kept k5)
    have S5 := Lib.hid s5
    have K5 := K4.no k5
    clear S3 K4 k5 s5
    go_wp2_with fail
    refine (Q6.out _ _ _ _ _ S5.out S4.out).mono ?_
    rintro e w6 ⟨rfl, d, rfl⟩
    go_wp2_with fail
    go_ret
    exact ⟨rfl, K5.drewN d⟩
  · have h0' : ¬ ((E : Int) = 0) := by omega
    have h0d : decide ((E : Int) = 0) = false := by simpa using h0
    have h0e : ((E : Int) == 0) = false := by simpa using h0
    go_wp2_with fail
    go_ret
    exact ⟨rfl, K4⟩
end Go.Proofs.Ytclnginkplhlhaa
