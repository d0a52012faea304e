/- The walk of girderlaw21.TlvRots. Conditions: the number of sections, the numbers' kinds. -/
import Derived.Test.YtclnginkplhlhaaTlv9
import Derived.Test.YtclnginkplhlhaaCrc2
namespace Go.Proofs.Ytclnginkplhlhaa
open Go.RowKit
theorem parse_any (l : List UInt8) (w : World) (hl : l.length ≤ 1000000) : Calls Try.prog 27 #[.string (bs l)] w fun e w' => ∃ (V : Nat) (A : Option Addr) (n cap : Nat), e = .returned (.tuple #[.int .u8 V, .slice A n cap, .int .i64 (parseE l : Nat)]) ∧ Kept noB w w' := by
  refine (parse_calls l w hl).mono ?_
  rintro e w' ⟨A, cap, rfl, _, _, hk⟩
  exact ⟨_, A, _, cap, rfl, hk⟩
theorem ne_forms (E : Nat) (h : E ≠ 0) : ¬ ((E : Int) = 0) ∧ decide ((E : Int) = 0) = false ∧ ((E : Int) == 0) = false ∧ ((E : Int) != 0) = true := by
  have h1 : ¬ ((E : Int) = 0) := by omega
  exact ⟨h1, by simpa using h, by simpa using h, by simpa using h⟩
theorem toList_ne {a b : List UInt8} (h : a ≠ b) : ((bs a).toList == (bs b).toList) = false := by
  rw [bs_toListE, bs_toListE]
  cases hb : (a == b)
  · rfl
  · exact absurd (eq_of_beq hb) h
set_option maxRecDepth 100000 in
set_option maxHeartbeats 8000000 in
theorem tlvRots_walk (ver cut : Nat) (hver : ver < 256) (hcut : cut < 65536) (l : List Sec) (A : Option Addr) (cap : Nat) (more0 : List UInt8) (hm0 : (more0.length : Int) ≤ 9223372036854775807) (at' B : Int) (hB0 : 0 ≤ B) (hB : B ≤ 4294967295) (w : World) (hA : SecAt w A l) (hn : l.length ≤ maxLen) :
    Calls Try.prog 9 #[.agg #[.int .u8 ver, .slice A l.length cap, .int .u16 cut, .string (bs more0)], .int .i64 at', .int .u32 B] w fun e w' => e = .returned (.bool true) ∧ Kept noB w w' := by
  have hz0 : ((bs more0).size : Int) = (more0.length : Int) := by rw [bs_size]
  have key : ∃ m : List UInt8, m.length ≤ 30 ∧ ((30 < (bs more0).size ∧ (bs more0).extract 0 30 = bs m) ∨ ((bs more0).size ≤ 30 ∧ (bs more0).extract 0 (bs more0).size = bs m)) := by
    by_cases h : 30 < (bs more0).size
    · exact ⟨more0.take 30, by simp; omega, .inl ⟨h, bs_take more0 30⟩⟩
    · refine ⟨more0, by rw [bs_size] at h; omega, .inr ⟨by omega, ?_⟩⟩
      rw [bs_size, bs_take, List.take_length]
  obtain ⟨more, hml, hmcase⟩ := key
  have hmz : ((bs more0).size : Int) ≤ 9223372036854775807 := by omega
  clear hz0 hm0
  have hsz := cut_size l
  have hcn := cut_count l
  have hcm := cut_mem (l.take 8)
  have q2 := fun w h => both_calls l A cap w h hn
  generalize cutS (l.take 8) = cs at *
  obtain ⟨v, hv⟩ : ∃ v : Nat, 1 + ver % 3 = v := ⟨_, rfl⟩
  have hg : goodV v = true := by simp [goodV]; omega
  have q3 := fun A c w h => build_calls v cs A c w h hcn (by omega)
  have hE : buildE v cs = 0 → buildL v cs = imageL v (encSecs cs) := fun h => by simp [buildL, h]
  have hpb := fun h => parse_build v cs h hcm (by omega)
  have hil := imageL_length v (encSecs cs)
  have HQ2 := Lib.hid q2
  have HQ3 := Lib.hid q3
  have HE := Lib.hid hE
  have HPB := Lib.hid hpb
  have HA := Lib.hid hA
  have k0 : Kept noB w (w.alloc (.cells #[.int .u8 ver, .slice A l.length cap, .int .u16 cut, .string (bs more0)] 84)) := (Kept.refl _ _).alloc _
  have b0 := Blk.new w 84 [.int .u8 ver, .slice A l.length cap, .int .u16 cut, .string (bs more0)]
  have HK := Lib.hid k0
  have HB := Lib.hid b0
  clear q2 q3 hE hpb hcm hcn hA k0 b0
  go_enter Try.func9, Try.ntmps9
  go_wp2_with fail
  refine (speaks21 _).mono ?_
  rintro e w1 ⟨rfl, k1⟩
  have K1 := HK.out.no k1
  have B1 := HB.out.kept k1 (fun e => e)
  have HB1 := Lib.hid B1
  have c1 : w1.cell? ⟨w.heap.size, 1, none⟩ = some (.slice A l.length cap) := B1.cell 1
  clear HK HB k1 B1
  go_wp2_with fail
  refine (HQ2.out _ (HA.out.kept K1)).mono ?_
  rintro e w2 ⟨A1, a1, A2, a2, rfl, s1, -, k2⟩
  have K2 := K1.no k2
  have B2 := HB1.out.kept k2 (fun e => e)
  have HB2 := Lib.hid B2
  have c0 : w2.cell? ⟨w.heap.size, 0, none⟩ = some (.int .u8 ver) := B2.cell 0
  have HS1 := Lib.hid s1
  clear HB1 k2 B2 K1 c1 s1
  have hvv : 1 + ((ver : Int) % 3) = (v : Int) := by omega
  go_wp2_with fail
  refine (HQ3.out _ _ _ HS1.out).mono ?_
  rintro e w3 ⟨rfl, k3⟩
  have K3 := K2.no k3
  have B3 := HB2.out.kept k3 (fun e => e)
  have c2 : w3.cell? ⟨w.heap.size, 2, none⟩ = some (.int .u16 cut) := B3.cell 2
  have HB3 := Lib.hid B3
  clear HB2 k3 B3 K2 c0 hvv HS1
  by_cases h0 : buildE v cs = 0
  · obtain ⟨p1, -, -⟩ := HPB.out h0
    rw [HE.out h0] at p1
    rw [HE.out h0, h0]
    have hcut2 : cut % (imageL v (encSecs cs)).length < (imageL v (encSecs cs)).length := Nat.mod_lt _ (by omega)
    have hf := rot_cut v (encSecs cs) hg (by omega) _ hcut2
    have hgm := fun hne => rot_more v (encSecs cs) more hg (by omega) hne
    have hht := fun hne => rot_turn v (encSecs cs) at' B hne
    have htl := turnV_length (imageL v (encSecs cs)) at' B
    clear HE HPB hg
    generalize imageL v (encSecs cs) = L at *
    have hLn : (bs L).size = L.length := bs_size L
    obtain ⟨c, hc⟩ : ∃ c, cut % L.length = c := ⟨_, rfl⟩
    rw [hc] at hcut2 hf
    have hci : (cut : Int) % (L.length : Int) = (c : Int) := by omega
    have hLs : L.length ≤ 400 := by omega
    have hL13 : 13 ≤ L.length := by omega
    have hxc : (bs L).extract 0 c = bs (L.take c) := bs_take L c
    have q1 := fun w => parse_any (L.take c) w (by simp; omega)
    have q2 := fun w => parse_any (L ++ more) w (by simp; omega)
    have q3 := fun w => turn_calls L at' B w hB0 hB (by omega)
    have q4 := fun w => parse_any (turnV L at' B) w (by omega)
    have hcat : bs L ++ bs more = bs (L ++ more) := bs_append L more
    have hms : (bs more).size = more.length := bs_size more
    have ov : ¬ 9223372036854775807 < L.length + more.length := by omega
    have hgz : parseE (L ++ more) = 0 ∧ more = [] ∨ parseE (L ++ more) ≠ 0 ∧ more ≠ [] := by
      by_cases h : more = []
      · exact .inl ⟨by rw [h, List.append_nil]; exact p1, h⟩
      · exact .inr ⟨hgm h, h⟩
    have hhz : parseE (turnV L at' B) = 0 ∧ turnV L at' B = L ∨ parseE (turnV L at' B) ≠ 0 ∧ turnV L at' B ≠ L := by
      by_cases h : turnV L at' B = L
      · exact .inl ⟨by rw [h]; exact p1, h⟩
      · exact .inr ⟨hht h, h⟩
    generalize turnV L at' B = Tn at *
    generalize parseE Tn = H at *
    generalize parseE (L ++ more) = G at *
    generalize parseE (L.take c) = F at *
    obtain ⟨f1, f2, f3, f4⟩ := ne_forms F hf
    have Q1 := Lib.hid q1
    have Q2 := Lib.hid q2
    have Q3 := Lib.hid q3
    have Q4 := Lib.hid q4
    have HGZ := Lib.hid hgz
    have HHZ := Lib.hid hhz
    clear p1 hf hgm hht hil hsz q1 q2 q3 q4 hgz hhz htl hc
    go_wp2_with fail
    refine (Q1.out _).mono ?_
    rintro e w4 ⟨V1, A3, n3, a3, rfl, k4⟩
    have K4 := K3.no k4
    have B4 := HB3.out.kept k4 (fun e => e)
    have c3 : w4.cell? ⟨w.heap.size, 3, none⟩ = some (.string (bs more0)) := B4.cell 3
    clear HB3 k4 B4 K3 c2 hcut2 hci hxc
    rcases hmcase with ⟨hmlt, hmx⟩ | ⟨hmlt, hmx⟩
    all_goals
      go_wp2_with fail
      refine (Q2.out _).mono ?_
      rintro e w5 ⟨V2, A4, n4, a4, rfl, k5⟩
      have K5 := K4.no k5
      clear c3 hmlt hmx k5 K4
      go_wp2_with fail
      refine (Q3.out _).mono ?_
      rintro e w6 ⟨rfl, k6⟩
      have K6 := K5.no k6
      clear k6 K5
      go_wp2_with fail
      refine (Q4.out _).mono ?_
      rintro e w7 ⟨V3, A5, n5, a5, rfl, k7⟩
      have K7 := K6.no k7
      clear k7 K6 hcat hms ov hLn
      rcases HGZ.out with ⟨g0, m0⟩ | ⟨g0, m0⟩
      · subst g0
        have t1 : ((bs more).toList == []) = true := by rw [m0, bs_toListE]; rfl
        have t2 : (bs more).toList.isEmpty = true := by rw [m0, bs_toListE]; rfl
        clear HGZ m0
        rcases HHZ.out with ⟨h1, r0⟩ | ⟨h1, r0⟩
        · subst h1
          subst r0
          clear HHZ
          go_wp2_with fail
          go_ret
          exact ⟨rfl, K7⟩
        · obtain ⟨i1, i2, i3, i4⟩ := ne_forms H h1
          have t3 := toList_ne r0
          clear HHZ h1 r0
          go_wp2_with fail
          go_ret
          exact ⟨rfl, K7⟩
      · obtain ⟨j1, j2, j3, j4⟩ := ne_forms G g0
        have t1 : ((bs more).toList == []) = false := by
          have h := toList_ne (b := []) m0
          rwa [bs_toListE ([] : List UInt8)] at h
        have t2 : (bs more).toList.isEmpty = false := by
          cases hb : (bs more).toList.isEmpty
          · rfl
          · rw [bs_toListE, List.isEmpty_iff] at hb
            exact absurd hb m0
        clear HGZ m0 g0
        rcases HHZ.out with ⟨h1, r0⟩ | ⟨h1, r0⟩
        · subst h1
          subst r0
          clear HHZ
          go_wp2_with fail
          go_ret
          exact ⟨rfl, K7⟩
        · obtain ⟨i1, i2, i3, i4⟩ := ne_forms H h1
          have t3 := toList_ne r0
          clear HHZ h1 r0
          go_wp2_with fail
          go_ret
          exact ⟨rfl, K7⟩
  · have h0' : ¬ ((buildE v cs : Int) = 0) := by omega
    have h0d : decide ((buildE v cs : Int) = 0) = false := by simpa using h0
    have h0e : ((buildE v cs : Int) == 0) = false := by simpa using h0
    generalize buildE v cs = E at *
    go_wp2_with fail
    go_ret
    exact ⟨rfl, K3⟩
end Go.Proofs.Ytclnginkplhlhaa
