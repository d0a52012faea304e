/- Plain words: what a step of a reader comes to, by the law's own words. No program in sight. No condition. -/
import Derived.Test.YtclnginkplhlhaaPlainWire
namespace Go.Proofs.Ytclnginkplhlhaa
theorem num_no (l : List UInt8) (b : Bool) (n : Int) (h : n < 1 ∨ 8 < n ∨ (l.length : Int) < n ∨ b = true) : rawBad l b (numSize n) = true ∧ numU (rawOut l b (numSize n)) = 0 ∧ rawRest l b (numSize n) = l := by
  have e : rawBad l b (numSize n) = true := by
    unfold rawBad numSize
    split
    · rcases h with h | h | h | h
      · omega
      · omega
      · simp [h]
      · simp [h]
    · simp
  refine ⟨e, ?_, ?_⟩
  · rw [rawOut, e]; rfl
  · rw [rawRest, e]; rfl
theorem num_yes (l : List UInt8) (n : Int) (h1 : 1 ≤ n) (h2 : n ≤ 8) (h3 : n ≤ (l.length : Int)) : rawBad l false (numSize n) = false ∧ rawOut l false (numSize n) = l.take n.toNat ∧ rawRest l false (numSize n) = l.drop n.toNat := by
  have e : numSize n = n := by simp [numSize, h1, h2]
  have e2 : rawBad l false n = false := by simp [rawBad]; omega
  rw [e]
  refine ⟨e2, ?_, ?_⟩
  · rw [rawOut, e2]; rfl
  · rw [rawRest, e2]; rfl
theorem raw_no (l : List UInt8) (b : Bool) (n : Int) (h : (l.length : Int) < n ∨ b = true) : rawBad l b n = true ∧ rawOut l b n = [] ∧ rawRest l b n = l := by
  have e : rawBad l b n = true := by
    unfold rawBad
    rcases h with h | h <;> simp [h]
  refine ⟨e, ?_, ?_⟩
  · rw [rawOut, e]; rfl
  · rw [rawRest, e]; rfl
theorem raw_yes (l : List UInt8) (n : Int) (h0 : 0 ≤ n) (h3 : n ≤ (l.length : Int)) : rawBad l false n = false ∧ rawOut l false n = l.take n.toNat ∧ rawRest l false n = l.drop n.toNat := by
  have e2 : rawBad l false n = false := by simp [rawBad]; omega
  refine ⟨e2, ?_, ?_⟩
  · rw [rawOut, e2]; rfl
  · rw [rawRest, e2]; rfl
end Go.Proofs.Ytclnginkplhlhaa
