/- The walk of tlv.Build. Conditions: the number of sections, their length. -/
import Derived.Test.YtclnginkplhlhaaTlv2
namespace Go.Proofs.Ytclnginkplhlhaa
open Go.RowKit
theorem tgood_calls (v : Nat) (w : World) : Calls Try.prog 48 #[.int .u8 v] w fun e w' => e = .returned (.bool (goodV v)) ∧ w = w' := by
  go_enter Try.func48, Try.ntmps48
  rcases (show v < 1 ∨ (1 ≤ v ∧ v ≤ 3) ∨ (1 ≤ v ∧ 3 < v) by omega) with h | ⟨h, h2⟩ | ⟨h, h2⟩
  · have hR : goodV v = false := by simp [goodV]; omega
    have h' : (v : Int) < 1 := by omega
    go_wp2
    go_ret
    exact ⟨rfl, rfl⟩
  · have hR : true = goodV v := by simp [goodV]; omega
    have HR := Lib.hid hR
    clear hR
    have h' : (1 : Int) ≤ v := by omega
    have h2' : (v : Int) ≤ 3 := by omega
    go_wp2
    go_ret
    rw [← HR.out]
    exact ⟨rfl, rfl⟩
  · have hR : false = goodV v := by simp [goodV]; omega
    have HR := Lib.hid hR
    clear hR
    have h' : (1 : Int) ≤ v := by omega
    have h2' : (3 : Int) < v := by omega
    have h3' : decide ((v : Int) ≤ 3) = false := by simp; omega
    go_wp2
    go_ret
    rw [← HR.out]
    exact ⟨rfl, rfl⟩
theorem encSecs_take (l : List Sec) (k : Nat) (x : Sec) (h : l[k]? = some x) : encSecs (l.take (k + 1)) = encSecs (l.take k) ++ (([UInt8.ofNat x.1.toNat] ++ beU x.2.length 4) ++ x.2) := by
  rw [List.take_add_one, h]
  simp [encSecs, encSec]
theorem encSecs_le (l : List Sec) (k : Nat) : (encSecs (l.take k)).length ≤ (encSecs l).length := by
  have e : encSecs l = encSecs (l.take k) ++ encSecs (l.drop k) := by rw [encSecs, encSecs, encSecs, ← List.flatMap_append, List.take_append_drop]
  rw [e, List.length_append]
  omega
theorem beU_one (n : Nat) : beU n 1 = [UInt8.ofNat n] := by
  simp [beU, byteU]
  apply UInt8.toNat_inj.1
  simp
theorem bV1 (a : Nat) : bytesV (a : Int) 1 = [UInt8.ofNat a] := by
  rw [bytesV, if_pos (by omega)]
  exact beU_one a
theorem bV4 (n : Nat) : bytesV (n : Int) 4 = beU n 4 := by
  rw [bytesV, if_pos (by omega)]
  rfl
set_option maxHeartbeats 1000000 in
theorem build_kind (v : Nat) (l : List Sec) (A : Option Addr) (cap : Nat) (w : World) (hv : goodV v = false) :
    Calls Try.prog 25 #[.int .u8 v, .slice A l.length cap] w fun e w' => e = .returned (.tuple #[.string (bs (buildL v l)), .int .i64 (buildE v l : Nat)]) ∧ Kept noB w w' := by
  have hE : buildE v l = 8 := by simp [buildE, hv]
  have hL : buildL v l = [] := by simp [buildL, hE]
  rw [hE, hL]
  have q := tgood_calls v w
  rw [hv] at q
  go_enter Try.func25, Try.ntmps25
  go_wp2_with (refine q.mono ?_; rintro e w2 ⟨rfl, rfl⟩)
  go_ret2
  exact ⟨rfl, Kept.refl _ _⟩
set_option maxHeartbeats 1000000 in
theorem build_order (v : Nat) (l : List Sec) (A : Option Addr) (cap : Nat) (w : World) (hv : goodV v = true) (hr : risingB l = false) (h : SecAt w A l) (hn : l.length ≤ maxLen) :
    Calls Try.prog 25 #[.int .u8 v, .slice A l.length cap] w fun e w' => e = .returned (.tuple #[.string (bs (buildL v l)), .int .i64 (buildE v l : Nat)]) ∧ Kept noB w w' := by
  have hE : buildE v l = 9 := by simp [buildE, hv, hr]
  have hL : buildL v l = [] := by simp [buildL, hE]
  rw [hE, hL]
  have q := tgood_calls v w
  rw [hv] at q
  have q2 := rising_calls l A cap w h hn
  rw [hr] at q2
  go_enter Try.func25, Try.ntmps25
  go_wp2_with fail
  refine q.mono ?_
  rintro e w2 ⟨rfl, rfl⟩
  go_wp2_with fail
  refine q2.mono ?_
  rintro e w2 ⟨rfl, d, rfl⟩
  go_wp2_with fail
  go_ret2
  exact ⟨rfl, (Kept.refl _ _).drewN _⟩
set_option maxHeartbeats 4000000 in
theorem build_ok (v : Nat) (l : List Sec) (A : Option Addr) (cap : Nat) (w : World) (hv : goodV v = true) (hr : risingB l = true) (h : SecAt w A l) (hn : l.length ≤ maxLen) (hs : (encSecs l).length ≤ 1000000) :
    Calls Try.prog 25 #[.int .u8 v, .slice A l.length cap] w fun e w' => e = .returned (.tuple #[.string (bs (imageL v (encSecs l))), .int .i64 0]) ∧ Kept noB w w' := by
  have hn' : l.length ≤ 9223372036854775807 := by unfold maxLen at hn; exact hn
  have q := tgood_calls v w
  rw [hv] at q
  have q2 := rising_calls l A cap w h hn
  rw [hr] at q2
  have hv3 : v ≤ 3 := by simp [goodV] at hv; omega
  go_enter Try.func25, Try.ntmps25
  go_wp2_with fail
  refine q.mono ?_
  rintro e w2 ⟨rfl, rfl⟩
  go_wp2_with fail
  refine q2.mono ?_
  rintro e w2 ⟨rfl, d, rfl⟩
  have h2 := h.kept ((Kept.refl _ w).drewN d)
  have k2 : Kept noB w (w.drewN d) := (Kept.refl _ w).drewN d
  generalize w.drewN d = w2 at *
  clear q q2 h
  go_wp2_with fail
  go_loopw [6, 20] (fun b i wr => ∃ k : Nat, k ≤ l.length ∧ i = .int .i64 k ∧ b = .string (bs (encSecs (l.take k))) ∧ Kept noB w2 wr) (fun _ i _ => l.length - (intOf i).toNat)
  case atStart => exact ⟨0, Nat.zero_le _, rfl, rfl, Kept.refl _ _⟩
  case round =>
    obtain ⟨k, hkl, rfl, rfl, hk⟩ := hrel
    by_cases hlt : k < l.length
    · have hlt' : (k : Int) < (l.length : Int) := by omega
      have hr3 := h2.kept hk
      obtain ⟨bb, off, rfl, hc⟩ : ∃ bb off, A = some ⟨bb, off, none⟩ ∧ ∀ k x, l[k]? = some x → wr.cell? ⟨bb, off + k * 2, none⟩ = some (.int .u8 (x.1.toNat : Int)) ∧ wr.cell? ⟨bb, off + k * 2 + 1, none⟩ = some (.string (bs x.2)) := by
        rcases hr3 with h | h
        · subst h
          simp at hlt
        · exact h
      obtain ⟨x, hx⟩ : ∃ x, l[k]? = some x := ⟨_, List.getElem?_eq_getElem hlt⟩
      obtain ⟨c0, c1⟩ := hc _ _ hx
      have hst := encSecs_take l k x hx
      have hle := encSecs_le l (k + 1)
      rw [hst] at hle
      have hbl : (bs (encSecs (l.take k))).size + x.2.length + 5 ≤ 1000000 := by rw [bs_size]; simp [beU_length] at hle; omega
      clear hc hle hr3 hx
      obtain ⟨a, ha⟩ : ∃ a : Nat, x.1.toNat = a := ⟨_, rfl⟩
      obtain ⟨dl, hd⟩ : ∃ dl, x.2 = dl := ⟨_, rfl⟩
      have ha2 : a < 256 := by rw [← ha]; exact x.1.toNat_lt
      rw [ha] at c0 hst
      rw [hd] at c1 hst hbl
      have HS := Lib.hid hst
      clear hst
      have hsz : (bs dl).size = dl.length := bs_size dl
      go_wp2_with fail
      have hk4 : Kept noB w2 (wr.alloc (.cells #[.int .u8 (a : Int), .string (bs dl)] 107)) := hk.alloc _
      have B4 := Blk.new wr 107 [.int .u8 (a : Int), .string (bs dl)]
      have d0 : (wr.alloc (.cells #[.int .u8 (a : Int), .string (bs dl)] 107)).cell? ⟨wr.heap.size, 0, none⟩ = some (.int .u8 (a : Int)) := B4.cell 0
      have d1 : (wr.alloc (.cells #[.int .u8 (a : Int), .string (bs dl)] 107)).cell? ⟨wr.heap.size, 1, none⟩ = some (.string (bs dl)) := B4.cell 1
      clear B4
      generalize wr.alloc (.cells #[.int .u8 (a : Int), .string (bs dl)] 107) = w4 at *
      have q1 := Calls.qkept (w := w4) (fun w1 _ => bytes_calls (a : Int) 1 w1 (by omega))
      have q2 := Calls.qkept (w := w4) (fun w1 _ => bytes_calls (dl.length : Int) 4 w1 (by omega))
      rw [bV1] at q1
      rw [bV4] at q2
      have sP : (bs [UInt8.ofNat a]).size = 1 := by rw [bs_size]; rfl
      have sI : (bs (beU dl.length 4)).size = 4 := by rw [bs_size, beU_length]
      have sQ : (bs [UInt8.ofNat a] ++ bs (beU dl.length 4)).size = 5 := by rw [bs_append, bs_size, List.length_append, beU_length]; rfl
      have sR : (bs [UInt8.ofNat a] ++ bs (beU dl.length 4) ++ bs dl).size = 5 + dl.length := by rw [bs_append, bs_append, bs_size, List.length_append, List.length_append, beU_length]; rfl
      generalize [UInt8.ofNat a] = p1 at *
      generalize beU dl.length 4 = p4 at *
      generalize encSecs (l.take k) = B at *
      have a0 : ¬ 9223372036854775807 < (bs p1).size + (bs p4).size := by omega
      have a1 : ¬ 9223372036854775807 < 5 + dl.length := by omega
      have a2 : ¬ 9223372036854775807 < (bs B).size + (5 + dl.length) := by omega
      have r0 : ∀ d os, (Sort.grow (redrawn w4 d) os).cell? ⟨wr.heap.size, 0, none⟩ = some (.int .u8 (a : Int)) := fun d os => (Kept.regrown w4 d os).cell d0 (fun e => e)
      have r1 : ∀ d os, (Sort.grow (redrawn w4 d) os).cell? ⟨wr.heap.size, 1, none⟩ = some (.string (bs dl)) := fun d os => (Kept.regrown w4 d os).cell d1 (fun e => e)
      have wa : IntKind.u64.wrap (a : Int) = (a : Int) := u64_wrap_nat _ (by omega)
      have wl : IntKind.u64.wrap (dl.length : Int) = (dl.length : Int) := u64_wrap_nat _ (by omega)
      clear c0 c1 hk
      refine wp_region_quiet_below (by kernel_rfl) (by kernel_rfl) ?_
      repeat (quiet_step (first | with_reducible exact q1 _ _ | with_reducible exact q2 _ _))
      refine wpQuiet_nil ?_
      intro _ hw'
      obtain ⟨⟨dq, osq⟩, hw''⟩ := hw'
      subst hw''
      have k5 := hk4.no (Kept.regrown w4 dq osq)
      clear q1 q2 d0 d1 r0 r1
      generalize Sort.grow (redrawn w4 dq) osq = w5 at *
      go_wp2_with fail
      refine ⟨⟨k + 1, by omega, by go_num, ?_, k5⟩, by simp [intOf]; omega⟩
      rw [HS.out, bs_append, bs_append, bs_append]
    · have hge : (l.length : Int) ≤ (k : Int) := by omega
      have hkl2 : l.take k = l := List.take_of_length_le (by omega)
      rw [hkl2]
      have kz := k2.no hk
      have wv : IntKind.u64.wrap (v : Int) = (v : Int) := u64_wrap_nat _ (by omega)
      have hlb : (bs (encSecs l)).size ≤ 1000000 := by rw [bs_size]; exact hs
      have wb : IntKind.u64.wrap ((bs (encSecs l)).size : Int) = ((bs (encSecs l)).size : Int) := u64_wrap_nat _ (by omega)
      have hlen : (bs (encSecs l)).size = (encSecs l).length := bs_size _
      have hI : imageL v (encSecs l) = (magicL ++ [UInt8.ofNat v] ++ beU (encSecs l).length 4 ++ encSecs l) ++ sumL (magicL ++ [UInt8.ofNat v] ++ beU (encSecs l).length 4 ++ encSecs l) := by simp [imageL, headL]
      have HI := Lib.hid hI
      clear hI hk h2 hkl hkl2 hr
      have hm : (⟨#[71, 82, 68, 82]⟩ : ByteArray) = bs magicL := rfl
      have sM : (bs magicL).size = 4 := rfl
      have sV : (bs [UInt8.ofNat v]).size = 1 := rfl
      have sI : (bs (beU (encSecs l).length 4)).size = 4 := by rw [bs_size, beU_length]
      generalize hBe : encSecs l = B at *
      have HB := Lib.hid hBe
      clear hBe
      go_wp2_with fail
      refine (bytes_calls (v : Int) 1 wr (by omega)).mono ?_
      rw [bV1]
      rintro e w3 ⟨rfl, k3⟩
      have k4 := kz.no k3
      have hSS : bs magicL ++ bs [UInt8.ofNat v] ++ bs (beU B.length 4) ++ bs B = bs (magicL ++ [UInt8.ofNat v] ++ beU B.length 4 ++ B) := by rw [bs_append, bs_append, bs_append]
      have HSS := Lib.hid hSS
      clear hSS
      have z1 : (bs (magicL ++ [UInt8.ofNat v])).size = 5 := by rw [bs_size]; rfl
      have z2 : (bs (magicL ++ [UInt8.ofNat v] ++ beU B.length 4)).size = 9 := by rw [bs_size, List.length_append, beU_length]; rfl
      have hL : (magicL ++ [UInt8.ofNat v] ++ beU B.length 4 ++ B).length = 9 + B.length := by rw [List.length_append, List.length_append, beU_length]; rfl
      have z3 : (bs (magicL ++ [UInt8.ofNat v] ++ beU B.length 4 ++ B)).size = 9 + B.length := by rw [bs_size, hL]
      have hI := HI.out
      clear HI
      go_wp2_with fail
      refine (bytes_calls (B.length : Int) 4 w3 (by omega)).mono ?_
      rw [bV4]
      rintro e w5 ⟨rfl, k5⟩
      have k6 := k4.no k5
      generalize hP : magicL ++ [UInt8.ofNat v] ++ beU B.length 4 ++ B = P3 at *
      clear hP z1 z2
      generalize beU B.length 4 = b4 at *
      have a1 : ¬ 9223372036854775807 < 9 + (bs B).size := by omega
      have a2 : ¬ 9223372036854775807 < 9 + B.length := by omega
      have a3 : (bs (sumL P3)).size = 4 := by rw [bs_size]; rfl
      have a4 : ¬ 9223372036854775807 < 9 + B.length + 4 := by omega
      go_wp2_with fail
      rw [HSS.out]
      refine (tsum_calls P3 w5 (by omega)).mono ?_
      rintro e w7 ⟨rfl, k7⟩
      have k8 := k6.no k7
      go_wp2_with fail
      go_ret2
      refine ⟨?_, k8⟩
      show Ending.returned (.tuple #[.string (bs P3 ++ bs (sumL P3)), .int .i64 0]) = _
      rw [HB.out, hI, bs_append]
theorem build_calls (v : Nat) (l : List Sec) (A : Option Addr) (cap : Nat) (w : World) (h : SecAt w A l) (hn : l.length ≤ maxLen) (hs : (encSecs l).length ≤ 1000000) :
    Calls Try.prog 25 #[.int .u8 v, .slice A l.length cap] w fun e w' => e = .returned (.tuple #[.string (bs (buildL v l)), .int .i64 (buildE v l : Nat)]) ∧ Kept noB w w' := by
  cases hv : goodV v with
  | false => exact build_kind v l A cap w hv
  | true =>
    cases hr : risingB l with
    | false => exact build_order v l A cap w hv hr h hn
    | true =>
      have hE : buildE v l = 0 := by simp [buildE, hv, hr]
      have hL : buildL v l = imageL v (encSecs l) := by simp [buildL, hE]
      rw [hE, hL]
      exact build_ok v l A cap w hv hr h hn hs
end Go.Proofs.Ytclnginkplhlhaa
