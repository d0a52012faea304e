/- The walks of package wire and its reference, whatever they are asked; the law's own first lines. -/
import Derived.Test.YtclnginkplhlhaaWire
namespace Go.Proofs.Ytclnginkplhlhaa
open Go.RowKit

theorem bytes_calls (n size : Int) (w : World) (h0 : 0 ≤ n) : Calls Try.prog 37 #[.int .u64 n, .int .i64 size] w fun e w' => e = .returned (.string (bs (bytesV n size))) ∧ Kept noB w w' := by
  unfold bytesV
  by_cases h : 1 ≤ size ∧ size ≤ 8
  · rw [if_pos h]
    obtain ⟨sz, rfl⟩ := Int.eq_ofNat_of_zero_le (show 0 ≤ size by omega)
    exact bytes_in n sz w h0 (by omega) (by omega)
  · rw [if_neg h]
    refine (bytes_out n size w (by omega)).mono ?_
    rintro e w' ⟨rfl, rfl⟩
    exact ⟨rfl, Kept.refl _ _⟩
theorem rbytes_calls (n size : Int) (w : World) (h0 : 0 ≤ n) (hn : n ≤ 18446744073709551615) : Calls Try.prog 40 #[.int .u64 n, .int .i64 size] w fun e w' => e = .returned (.string (bs (bytesV n size))) ∧ Kept noB w w' := by
  unfold bytesV
  by_cases h : 1 ≤ size ∧ size ≤ 8
  · rw [if_pos h]
    obtain ⟨sz, rfl⟩ := Int.eq_ofNat_of_zero_le (show 0 ≤ size by omega)
    exact rbytes_in n sz w h0 hn (by omega) (by omega)
  · rw [if_neg h]
    refine (rbytes_out n size w (by omega)).mono ?_
    rintro e w' ⟨rfl, rfl⟩
    exact ⟨rfl, Kept.refl _ _⟩
theorem field_calls (n a k : Int) (w : World) (h0 : 0 ≤ n) (hn : n ≤ 18446744073709551615) : Calls Try.prog 45 #[.int .u64 n, .int .i64 a, .int .i64 k] w fun e w' => e = .returned (.int .u64 (fieldV n a k)) ∧ w = w' := by
  unfold fieldV
  cases h : isField a k
  · rw [if_neg (by simp)]
    exact field_out n a k w (isField_no h)
  · rw [if_pos rfl]
    have := isField_yes h
    exact field_in n a k w h0 hn (by omega) (by omega) (by omega)
theorem with_calls (n a k v : Int) (w : World) (h0 : 0 ≤ n) (hn : n ≤ 18446744073709551615) (hv0 : 0 ≤ v) (hv : v ≤ 18446744073709551615) : Calls Try.prog 56 #[.int .u64 n, .int .i64 a, .int .i64 k, .int .u64 v] w fun e w' => e = .returned (.int .u64 (withV n a k v)) ∧ ∃ d, w' = w.drewN d := by
  unfold withV
  cases h : isField a k
  · rw [if_neg (by simp)]
    refine (with_out n a k v w (isField_no h)).mono ?_
    rintro e w' ⟨rfl, rfl⟩
    exact ⟨rfl, 0, rfl⟩
  · rw [if_pos rfl]
    have := isField_yes h
    exact with_in n a k v w h0 hn hv0 hv (by omega) (by omega) (by omega)

/-! ### a reader of the caller's own, behind w0 -/
def RdS (w0 w : World) (g : Nat) (l : List UInt8) (b : Bool) : Prop := Rd w g l b ∧ Kept noB w0 w ∧ w0.heap.size ≤ g ∧ l.length ≤ 140737488351232
theorem RdS.kept {w0 w w' : World} {g : Nat} {l : List UInt8} {b : Bool} (h : RdS w0 w g l b) (hk : Kept noB w w') : RdS w0 w' g l b :=
  ⟨h.1.kept hk (fun e => e), h.2.1.no hk, h.2.2⟩
theorem RdS.turned {w0 w w' : World} {g : Nat} {l l' : List UInt8} {b b' : Bool} (h : RdS w0 w g l b) (hr : Rd w' g l' b') (hk : Kept (oneB g) w w') (hl : l'.length ≤ l.length) : RdS w0 w' g l' b' :=
  ⟨hr, h.2.1.then hk (fun i hi e => by have e' : i = g := e; have := h.2.2.1; omega), h.2.2.1, Nat.le_trans hl h.2.2.2⟩
theorem RdS.drew {w0 w : World} {g : Nat} {l : List UInt8} {b : Bool} (h : RdS w0 w g l b) : RdS w0 w.drew g l b := ⟨h.1, h.2.1.drew, h.2.2⟩
theorem RdS.drewN {w0 w : World} {g : Nat} {l : List UInt8} {b : Bool} (h : RdS w0 w g l b) (n : Nat) : RdS w0 (w.drewN n) g l b := ⟨h.1, h.2.1.drewN n, h.2.2⟩
theorem read_s {w0 w : World} (h : Kept noB w0 w) (l : List UInt8) (hl : l.length ≤ 140737488351232) : Calls Try.prog 41 #[.string (bs l)] w fun e w' => ∃ g, e = .returned (.pointer (some ⟨g, 0, none⟩)) ∧ RdS w0 w' g l false := by
  refine (read_calls l w).mono ?_
  rintro e w' ⟨rfl, hr, hk⟩
  exact ⟨_, rfl, hr, h.no hk, h.size, hl⟩
theorem raw_s {w0 w : World} {g : Nat} {l : List UInt8} {b : Bool} (h : RdS w0 w g l b) (n : Int) : Calls Try.prog 42 #[.pointer (some ⟨g, 0, none⟩), .int .i64 n] w fun e w' => e = .returned (.string (bs (rawOut l b n))) ∧ RdS w0 w' g (rawRest l b n) (rawBad l b n) := by
  refine (raw_calls g l b n w h.1 h.2.2.2).mono ?_
  rintro e w' ⟨rfl, hr, hk⟩
  exact ⟨rfl, h.turned hr hk (rawRest_le l b n)⟩
theorem num_s {w0 w : World} {g : Nat} {l : List UInt8} {b : Bool} (h : RdS w0 w g l b) (n : Int) : Calls Try.prog 43 #[.pointer (some ⟨g, 0, none⟩), .int .i64 n] w fun e w' => e = .returned (.int .u64 ((numU (rawOut l b (numSize n)) : Nat) : Int)) ∧ RdS w0 w' g (rawRest l b (numSize n)) (rawBad l b (numSize n)) := by
  refine (num_calls g l b n w h.1 h.2.2.2).mono ?_
  rintro e w' ⟨rfl, hr, hk⟩
  exact ⟨rfl, h.turned hr hk (rawRest_le l b _)⟩
theorem left_s {w0 w : World} {g : Nat} {l : List UInt8} {b : Bool} (h : RdS w0 w g l b) : Calls Try.prog 44 #[.pointer (some ⟨g, 0, none⟩)] w fun e w' => e = .returned (.int .i64 (l.length : Int)) ∧ w = w' := left_calls g l b w h.1
theorem left_b {w0 w : World} {g : Nat} {l : List UInt8} {b : Bool} (h : RdS w0 w g l b) : Calls Try.prog 44 #[.pointer (some ⟨g, 0, none⟩)] w fun e w' => e = .returned (.int .i64 ((bs l).size : Int)) ∧ w = w' := by rw [bs_size]; exact left_s h
theorem end_s {w0 w : World} {g : Nat} {l : List UInt8} {b : Bool} (h : RdS w0 w g l b) : Calls Try.prog 59 #[.pointer (some ⟨g, 0, none⟩)] w fun e w' => e = .returned (.int .i64 (endV l b)) ∧ w = w' := end_calls g l b w h.1
theorem bytes_s {w0 w : World} {g : Nat} {l : List UInt8} {b : Bool} (h : RdS w0 w g l b) (n size : Int) (h0 : 0 ≤ n) : Calls Try.prog 37 #[.int .u64 n, .int .i64 size] w fun e w' => e = .returned (.string (bs (bytesV n size))) ∧ RdS w0 w' g l b := by
  refine (bytes_calls n size w h0).mono ?_
  rintro e w' ⟨rfl, hk⟩
  exact ⟨rfl, h.kept hk⟩
end Go.Proofs.Ytclnginkplhlhaa
