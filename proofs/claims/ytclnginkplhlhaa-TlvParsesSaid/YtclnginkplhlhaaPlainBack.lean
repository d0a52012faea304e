/- Plain words: what is written one behind the other is read again. No program in sight. No condition. -/
import Derived.Test.YtclnginkplhlhaaPlainWire
namespace Go.Proofs.Ytclnginkplhlhaa

/-- the first n of some texts, one behind the other -/
def catF (f : Nat → List UInt8) : Nat → List UInt8
  | 0 => []
  | n + 1 => catF f n ++ f n
/-- n of some texts from the k-th on -/
def catT (f : Nat → List UInt8) : Nat → Nat → List UInt8
  | _, 0 => []
  | k, n + 1 => f k ++ catT f (k + 1) n
theorem catT_snoc (f : Nat → List UInt8) : ∀ (n k : Nat), catT f k (n + 1) = catT f k n ++ f (k + n)
  | 0, k => by simp [catT]
  | n + 1, k => by
    rw [catT, catT_snoc f n (k + 1), catT, List.append_assoc, show k + 1 + n = k + (n + 1) by omega]
theorem catF_catT (f : Nat → List UInt8) : ∀ n, catF f n = catT f 0 n
  | 0 => rfl
  | n + 1 => by rw [catF, catF_catT f n, catT_snoc, Nat.zero_add]
theorem catF_le (f : Nat → List UInt8) (h : ∀ i, (f i).length ≤ 8) : ∀ n, (catF f n).length ≤ 8 * n
  | 0 => Nat.le_refl _
  | n + 1 => by have := catF_le f h n; have := h n; simp [catF]; omega
theorem raw_pre (a b : List UInt8) (n : Int) (h : n = (a.length : Int)) : rawBad (a ++ b) false n = false ∧ rawOut (a ++ b) false n = a ∧ rawRest (a ++ b) false n = b := by
  have e : rawBad (a ++ b) false n = false := by simp [rawBad]; omega
  refine ⟨e, ?_, ?_⟩
  · rw [rawOut, e, if_neg (by simp), show n.toNat = a.length by omega, List.take_left]
  · rw [rawRest, e, if_neg (by simp), show n.toNat = a.length by omega, List.drop_left]
theorem numU_beU (n : Nat) : ∀ k, numU (beU n k) = n % 256 ^ k := by
  have go : ∀ (k a : Nat), (beU n k).foldl (fun a b => 256 * a + b.toNat) a = a * 256 ^ k + n % 256 ^ k := by
    intro k
    induction k with
    | zero => intro a; simp [beU, Nat.mod_one]
    | succ k ih =>
      intro a
      rw [beU, List.foldl_cons, ih, byteU_toNat]
      have h : n % 256 ^ (k + 1) = n % 256 ^ k + 256 ^ k * (n / 256 ^ k % 256) := by rw [Nat.pow_succ, Nat.mod_mul]
      rw [h, Nat.pow_succ, Nat.add_mul, Nat.mul_comm (n / 256 ^ k % 256)]
      have : 256 * a * 256 ^ k = a * (256 ^ k * 256) := by rw [Nat.mul_comm 256 a, Nat.mul_assoc, Nat.mul_comm 256]
      omega
  intro k
  have := go k 0
  simpa [numU] using this
theorem numSize_in (n : Int) (h : 1 ≤ n ∧ n ≤ 8) : numSize n = n := by simp [numSize, h]
theorem beU_field (n : Int) (k : Nat) (h1 : 1 ≤ k) (h2 : k ≤ 8) : ((numU (beU n.toNat k) : Nat) : Int) = fieldV n 0 (8 * (k : Int)) := by
  have e : isField 0 (8 * (k : Int)) = true := by simp [isField]; omega
  rw [numU_beU, fieldV, e, if_pos rfl, fieldN, show (8 * (k : Int)).toNat = 8 * k by omega, Nat.pow_mul]
  simp
end Go.Proofs.Ytclnginkplhlhaa
