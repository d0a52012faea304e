/- Plain words: a sum by a table, bit by bit; bits of a text that are turned. No program in sight. No condition. -/
import Derived.Test.YtclnginkplhlhaaPlainWire
namespace Go.Proofs.Ytclnginkplhlhaa

def crcStep (r : Nat) : Nat := if r % 2 = 1 then r / 2 ^^^ 3988292384 else r / 2
def crcIt : Nat → Nat → Nat
  | 0, r => r
  | k + 1, r => crcStep (crcIt k r)
/-- the table's number at a place -/
def crcT (i : Nat) : Nat := crcIt 8 i
def crcUpd (r : Nat) (b : UInt8) : Nat := r / 256 ^^^ crcT ((r % 256) ^^^ b.toNat)
def crcReg (l : List UInt8) : Nat := l.foldl crcUpd 4294967295
def crcSum (l : List UInt8) : Nat := crcReg l ^^^ 4294967295
/-- the table, filled up to a place -/
def tabN (k : Nat) : List Nat := (List.range 256).map fun i => if i < k then crcT i else 0
def vw (l : List Nat) : List Value := l.map fun n : Nat => .int .u32 (n : Int)
theorem vw_length (l : List Nat) : (vw l).length = l.length := by simp [vw]
theorem tabN_length (k : Nat) : (tabN k).length = 256 := by simp [tabN]
theorem vw_set (l : List Nat) (i n : Nat) : (vw l).set i (.int .u32 (n : Int)) = vw (l.set i n) := by simp [vw, List.map_set]
theorem tabN_set (k : Nat) (_h : k < 256) : (tabN k).set k (crcT k) = tabN (k + 1) := by
  apply List.ext_getElem?
  intro i
  rw [List.getElem?_set]
  unfold tabN
  by_cases hi : i < 256
  · by_cases hk : k = i
    · subst hk
      simp [hi]
    · by_cases hik : i < k
      · simp [hk, hi, hik, show i < k + 1 by omega]
      · simp [hk, hi, hik, show ¬ i < k + 1 by omega]
  · have : ¬ k = i := by omega
    simp [this, hi]
theorem vw_tab_get (i : Nat) (h : i < 256) : (vw (tabN 256))[i]? = some (.int .u32 (crcT i : Int)) := by
  simp [vw, tabN, h]
theorem xor_lt32 {a b : Nat} (ha : a < 4294967296) (hb : b < 4294967296) : a ^^^ b < 4294967296 := Nat.xor_lt_two_pow (n := 32) ha hb
theorem xor_lt8 {a b : Nat} (ha : a < 256) (hb : b < 256) : a ^^^ b < 256 := Nat.xor_lt_two_pow (n := 8) ha hb
theorem crcStep_lt {r : Nat} (h : r < 4294967296) : crcStep r < 4294967296 := by
  unfold crcStep
  split
  · exact xor_lt32 (by omega) (by omega)
  · omega
theorem crcIt_lt {r : Nat} (h : r < 4294967296) : ∀ k, crcIt k r < 4294967296
  | 0 => h
  | k + 1 => crcStep_lt (crcIt_lt h k)
theorem crcUpd_lt {r : Nat} (b : UInt8) (h : r < 4294967296) : crcUpd r b < 4294967296 := by
  have hx := xor_lt8 (show r % 256 < 256 by omega) b.toNat_lt
  exact xor_lt32 (by omega) (crcIt_lt (by omega) 8)
theorem crcFold_lt : ∀ (l : List UInt8) (r : Nat), r < 4294967296 → l.foldl crcUpd r < 4294967296
  | [], _, h => h
  | b :: l, _, h => crcFold_lt l _ (crcUpd_lt b h)
theorem crcReg_lt (l : List UInt8) : crcReg l < 4294967296 := crcFold_lt l _ (by omega)
theorem crcSum_lt (l : List UInt8) : crcSum l < 4294967296 := xor_lt32 (crcReg_lt l) (by omega)
theorem crcReg_take_succ (l : List UInt8) (k : Nat) (h : k < l.length) : crcReg (l.take (k + 1)) = crcUpd (crcReg (l.take k)) l[k] := by
  unfold crcReg
  rw [List.take_succ_eq_append_getElem h, List.foldl_append]
  rfl

/-! ### bits that are turned -/
/-- one bit, by its place -/
def turn1 (l : List UInt8) (k : Nat) : List UInt8 := l.set (k / 8) (l.getD (k / 8) 0 ^^^ UInt8.ofNat (2 ^ (k % 8)))
/-- the first i bits of a window -/
def turnU (l : List UInt8) (at_ bits : Nat) : Nat → List UInt8
  | 0 => l
  | i + 1 => if bits.testBit i then turn1 (turnU l at_ bits i) (at_ + i) else turnU l at_ bits i
theorem turn1_length (l : List UInt8) (k : Nat) : (turn1 l k).length = l.length := by simp [turn1]
theorem turnU_length (l : List UInt8) (at_ bits : Nat) : ∀ i, (turnU l at_ bits i).length = l.length
  | 0 => rfl
  | i + 1 => by
    rw [turnU]
    split
    · rw [turn1_length, turnU_length l at_ bits i]
    · exact turnU_length l at_ bits i
theorem turn1_out (l : List UInt8) (k : Nat) (h : l.length ≤ k / 8) : turn1 l k = l := by
  unfold turn1
  rw [List.set_eq_of_length_le h]
/-- what Turn answers, whatever it is asked -/
def turnV (l : List UInt8) (at_ bits : Int) : List UInt8 := if at_ < 0 ∨ 1073741824 < at_ then l else turnU l at_.toNat bits.toNat 32
theorem turnV_length (l : List UInt8) (at_ bits : Int) : (turnV l at_ bits).length = l.length := by
  unfold turnV
  split
  · rfl
  · exact turnU_length _ _ _ _
end Go.Proofs.Ytclnginkplhlhaa
