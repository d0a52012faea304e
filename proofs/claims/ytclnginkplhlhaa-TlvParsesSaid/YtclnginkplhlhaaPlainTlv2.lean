/- Plain words: sections by as many steps as there are bytes; a step of the reader. No program in sight. No condition. -/
import Derived.Test.YtclnginkplhlhaaPlainTlv
namespace Go.Proofs.Ytclnginkplhlhaa
def decAll (l : List UInt8) : Option (List Sec) := decSecs l.length l
theorem decSecs_all : ∀ (k : Nat) (l : List UInt8), l.length ≤ k → decSecs k l = decAll l := by
  intro k
  induction k using Nat.strongRecOn with
  | _ k ih =>
    intro l hl
    match l, k, hl with
    | [], k, _ => cases k <;> rfl
    | x :: t, k + 1, hl =>
      have ht : t.length ≤ k := by simpa using hl
      have hd : ((t.drop 4).drop (numU (t.take 4))).length ≤ t.length := by simp only [List.length_drop]; omega
      unfold decAll
      rw [List.length_cons, decSecs, decSecs, ih k (by omega) _ (by omega)]
      by_cases e : t.length = k
      · subst e
        rw [ih t.length (by omega) _ hd]
      · rw [ih t.length (by simp at hl; omega) _ hd]
theorem decAll_nil : decAll [] = some [] := rfl
theorem decAll_cons (x : UInt8) (t : List UInt8) : decAll (x :: t) = if t.length < 4 then none else if t.length - 4 < numU (t.take 4) then none else
    match decAll ((t.drop 4).drop (numU (t.take 4))) with
    | none => none
    | some r => some ((x, (t.drop 4).take (numU (t.take 4))) :: r) := by
  have hd : ((t.drop 4).drop (numU (t.take 4))).length ≤ t.length := by simp only [List.length_drop]; omega
  conv => lhs; unfold decAll
  rw [List.length_cons, decSecs, decSecs_all _ _ hd]
  rfl
/-- what stands behind sections already gathered -/
def withSecs (done : List Sec) : Option (List Sec) → Option (List Sec)
  | none => none
  | some r => some (done ++ r)
/-- how far the reading has come -/
def Come (l : List UInt8) (done : List Sec) (rest : List UInt8) : Prop := decAll l = withSecs done (decAll rest) ∧ 5 * done.length + rest.length ≤ l.length
theorem come_start (l : List UInt8) : Come l [] l := ⟨by cases h : decAll l <;> simp [withSecs], by simp⟩
theorem come_short {l : List UInt8} {done : List Sec} {x : UInt8} {t : List UInt8} (h : Come l done (x :: t)) (hs : t.length < 4) : decAll l = none := by
  rw [h.1, decAll_cons, if_pos hs]
  rfl
theorem come_long {l : List UInt8} {done : List Sec} {x : UInt8} {t : List UInt8} (h : Come l done (x :: t)) (hs : 4 ≤ t.length) (hn : t.length - 4 < numU (t.take 4)) : decAll l = none := by
  rw [h.1, decAll_cons, if_neg (by omega), if_pos hn]
  rfl
theorem come_next {l : List UInt8} {done : List Sec} {x : UInt8} {t : List UInt8} (h : Come l done (x :: t)) (hs : 4 ≤ t.length) (hn : numU (t.take 4) ≤ t.length - 4) :
    Come l (done ++ [(x, (t.drop 4).take (numU (t.take 4)))]) ((t.drop 4).drop (numU (t.take 4))) := by
  refine ⟨?_, ?_⟩
  · rw [h.1, decAll_cons, if_neg (by omega), if_neg (by omega)]
    cases decAll ((t.drop 4).drop (numU (t.take 4))) <;> simp [withSecs]
  · have := h.2
    simp at this ⊢
    omega
theorem come_end {l : List UInt8} {done : List Sec} (h : Come l done []) : decAll l = some done := by
  rw [h.1, decAll_nil]
  simp [withSecs]
theorem secE_none {l : List UInt8} (h : decAll l = none) : secE l = 4 ∧ secS l = [] := by
  have h' : decSecs l.length l = none := h
  simp [secE, secS, h']
theorem secE_some {l : List UInt8} {r : List Sec} (h : decAll l = some r) : secE l = (if risingB r then 0 else 9) ∧ secS l = (if risingB r then r else []) := by
  have h' : decSecs l.length l = some r := h
  simp [secE, secS, h']
end Go.Proofs.Ytclnginkplhlhaa
