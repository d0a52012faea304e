/- Slices of sections; rising, good. Condition: the number of sections. -/
import Derived.Test.YtclnginkplhlhaaTlv
import Derived.BigQuiet
namespace Go.Proofs.Ytclnginkplhlhaa
open Go.RowKit
/-- some sections lie in memory -/
def SecAt (w : World) (A : Option Addr) (l : List Sec) : Prop := l = [] ∨ ∃ bb off, A = some ⟨bb, off, none⟩ ∧ ∀ k x, l[k]? = some x → w.cell? ⟨bb, off + k * 2, none⟩ = some (.int .u8 (x.1.toNat : Int)) ∧ w.cell? ⟨bb, off + k * 2 + 1, none⟩ = some (.string (bs x.2))
theorem SecAt.kept {w w' : World} {A : Option Addr} {l : List Sec} (h : SecAt w A l) (hk : Kept noB w w') : SecAt w' A l := by
  rcases h with h | ⟨bb, off, hA, h⟩
  · exact .inl h
  · exact .inr ⟨bb, off, hA, fun k x hx => ⟨hk.cell (h k x hx).1 (fun e => e), hk.cell (h k x hx).2 (fun e => e)⟩⟩
/-- the kinds of the first k rise -/
def upTo (l : List Sec) (k : Nat) : Prop := ∀ j x y, j + 1 < k → l[j]? = some x → l[j + 1]? = some y → x.1.toNat < y.1.toNat
theorem rising_all : ∀ l : List Sec, upTo l l.length → risingB l = true
  | [], _ => rfl
  | [_], _ => rfl
  | x :: y :: l, h => by
    have h0 := h 0 x y (by simp) rfl rfl
    have h1 := rising_all (y :: l) (fun j a b hj ha hb => h (j + 1) a b (by simp at hj ⊢; omega) ha hb)
    simp [risingB, h0, h1]
theorem rising_get : ∀ (l : List Sec) (j : Nat) (x y : Sec), risingB l = true → l[j]? = some x → l[j + 1]? = some y → x.1.toNat < y.1.toNat
  | [], j, x, y, _, h, _ => by simp at h
  | [_], j, x, y, _, _, h => by simp at h
  | a :: b :: l, 0, x, y, h, hx, hy => by
    simp only [risingB, Bool.and_eq_true, decide_eq_true_eq] at h
    simp at hx hy
    subst hx hy
    exact h.1
  | a :: b :: l, j + 1, x, y, h, hx, hy => by
    simp only [risingB, Bool.and_eq_true, decide_eq_true_eq] at h
    exact rising_get (b :: l) j x y h.2 hx hy
theorem rising_not {l : List Sec} {j : Nat} {x y : Sec} (hx : l[j]? = some x) (hy : l[j + 1]? = some y) (h : y.1.toNat ≤ x.1.toNat) : risingB l = false := by
  cases hr : risingB l with
  | false => rfl
  | true => exact absurd (rising_get l j x y hr hx hy) (by omega)
theorem upTo_next {l : List Sec} {k : Nat} (h : upTo l k) (h1 : 1 ≤ k) {x y : Sec} (hx : l[k - 1]? = some x) (hy : l[k]? = some y) (hlt : x.1.toNat < y.1.toNat) : upTo l (k + 1) := by
  intro j a b hj ha hb
  by_cases e : j + 1 < k
  · exact h j a b e ha hb
  · have : j = k - 1 := by omega
    subst this
    rw [show k - 1 + 1 = k by omega] at hb
    rw [hx] at ha
    rw [hy] at hb
    cases ha
    cases hb
    exact hlt
theorem upTo_one (l : List Sec) : upTo l 1 := fun j _ _ h => by omega
set_option maxHeartbeats 1000000 in
theorem rising_calls (l : List Sec) (A : Option Addr) (cap : Nat) (w : World) (h : SecAt w A l) (hn : l.length ≤ maxLen) :
    Calls Try.prog 49 #[.slice A l.length cap] w fun e w' => e = .returned (.bool (risingB l)) ∧ ∃ d, w' = w.drewN d := by
  have hn' : l.length ≤ 9223372036854775807 := by unfold maxLen at hn; exact hn
  go_enter Try.func49, Try.ntmps49
  go_wp2_with fail
  go_loopw [3] (fun i wr => ∃ k : Nat, 1 ≤ k ∧ (k ≤ l.length ∨ k = 1) ∧ i = .int .i64 k ∧ upTo l k ∧ ∃ d, wr = w.drewN d) (fun i _ => l.length - (intOf i).toNat)
  case atStart => exact ⟨1, Nat.le_refl _, .inr rfl, rfl, upTo_one l, 0, rfl⟩
  case round =>
    obtain ⟨k, hk1, hkl, rfl, hup, d, rfl⟩ := hrel
    by_cases hlt : k < l.length
    · have hlt' : (k : Int) < (l.length : Int) := by omega
      obtain ⟨bb, off, rfl, hc⟩ : ∃ bb off, A = some ⟨bb, off, none⟩ ∧ ∀ k x, l[k]? = some x → w.cell? ⟨bb, off + k * 2, none⟩ = some (.int .u8 (x.1.toNat : Int)) ∧ w.cell? ⟨bb, off + k * 2 + 1, none⟩ = some (.string (bs x.2)) := by
        rcases h with h | h
        · subst h
          simp at hlt
        · exact h
      obtain ⟨m, rfl⟩ : ∃ m, k = m + 1 := ⟨k - 1, by omega⟩
      obtain ⟨x, hx⟩ : ∃ x, l[m]? = some x := ⟨_, List.getElem?_eq_getElem (show m < l.length by omega)⟩
      obtain ⟨y, hy⟩ : ∃ y, l[m + 1]? = some y := ⟨_, List.getElem?_eq_getElem hlt⟩
      have c0 := (hc _ _ hx).1
      have c1 := (hc _ _ hy).1
      have hnx := fun hle => upTo_next hup hk1 hx hy hle
      have hno := fun hle => rising_not hx hy hle
      clear hc hx hy
      obtain ⟨a, ha⟩ : ∃ a : Nat, x.1.toNat = a := ⟨_, rfl⟩
      obtain ⟨b, hb⟩ : ∃ b : Nat, y.1.toNat = b := ⟨_, rfl⟩
      rw [ha, hb] at hnx hno
      rw [ha] at c0
      rw [hb] at c1
      have hm1 : ((m : Nat) : Int) < (l.length : Int) := by omega
      by_cases hle : b ≤ a
      · have hle' : (b : Int) ≤ (a : Int) := by omega
        have hR := Lib.hid (hno hle)
        clear hnx hno
        go_wp2_with fail
        go_quiet (fail)
        go_wp2_with fail
        go_ret
        rw [hR.out]
        exact ⟨rfl, _, World.drewN_drewN _ _ _⟩
      · have hle' : (a : Int) < (b : Int) := by omega
        have hR := Lib.hid (hnx (by omega))
        clear hnx hno
        go_wp2_with fail
        go_quiet (fail)
        go_wp2_with fail
        exact ⟨⟨m + 1 + 1, by omega, by omega, by go_num, hR.out, _, rfl⟩, by simp [intOf]; omega⟩
    · have hge : (l.length : Int) ≤ (k : Int) := by omega
      have hR := rising_all l (fun j x y hj hx hy => hup j x y (by omega) hx hy)
      go_wp2_with fail
      go_ret
      rw [hR]
      exact ⟨rfl, d, rfl⟩
end Go.Proofs.Ytclnginkplhlhaa
