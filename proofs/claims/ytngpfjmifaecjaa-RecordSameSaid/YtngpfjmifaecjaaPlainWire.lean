/- Plain words on numbers and bytes: the bytes of a number, the number of bytes. No program in sight. No condition. -/
import Derived.Laws.BytesArg
import Derived.Lib.LazyBuf
import Derived.Lib.Strings
namespace Go.Proofs.Ytngpfjmifaecjaa

/-- the byte of a number at a place, the lowest being at 0 -/
def byteU (n i : Nat) : UInt8 := UInt8.ofNat (n / 256 ^ i % 256)
/-- the last k bytes of a number, the highest first -/
def beU (n : Nat) : Nat → List UInt8
  | 0 => []
  | k + 1 => byteU n k :: beU n k
/-- the number of some bytes -/
def numU (l : List UInt8) : Nat := l.foldl (fun a b => 256 * a + b.toNat) 0
/-- a text of bytes -/
def bs (l : List UInt8) : ByteArray := ⟨l.toArray⟩
/-- bytes as a slice's elements -/
def vb (l : List UInt8) : List Value := l.map fun b => .int .u8 (b.toNat : Int)

theorem byteU_toNat (n i : Nat) : (byteU n i).toNat = n / 256 ^ i % 256 := by
  unfold byteU
  rw [UInt8.toNat_ofNat']
  omega
theorem beU_length (n : Nat) : ∀ k, (beU n k).length = k
  | 0 => rfl
  | k + 1 => by simp [beU, beU_length n k]
theorem vb_length (l : List UInt8) : (vb l).length = l.length := by simp [vb]
theorem vb_append (l m : List UInt8) : vb (l ++ m) = vb l ++ vb m := by simp [vb]
theorem vb_replicate (n : Nat) : vb (List.replicate n 0) = List.replicate n (.int .u8 0) := by simp [vb]
theorem bs_toList (l : List UInt8) : (bs l).data.toList = l := rfl
theorem bs_data (s : ByteArray) : bs s.data.toList = s := rfl
theorem bs_size (l : List UInt8) : (bs l).size = l.length := by simp [bs, ByteArray.size]
theorem vb_get (l : List UInt8) (i : Nat) (h : i < l.length) : (vb l)[i]? = some (.int .u8 (l[i].toNat : Int)) := by
  simp [vb, h]
theorem vb_set (l : List UInt8) (i : Nat) (b : UInt8) : (vb l).set i (.int .u8 (b.toNat : Int)) = vb (l.set i b) := by
  simp [vb, List.map_set]
theorem strOf_vb (l : List UInt8) : strOfNums (l.map fun b => (b.toNat : Int)) = bs l := Go.Lib.Lz.strOfNums_map l
/-- a step of filling up from the end -/
theorem fill_step (n sz i : Nat) (h : i < sz) :
    (List.replicate (sz - i) 0 ++ beU n i).set (sz - 1 - i) (byteU n i) = List.replicate (sz - (i + 1)) 0 ++ beU n (i + 1) := by
  rw [List.set_append_left _ _ (by simp; omega)]
  rw [show sz - i = (sz - (i + 1)) + 1 from by omega, List.replicate_succ', show sz - 1 - i = (List.replicate (sz - (i + 1)) (0 : UInt8)).length from by simp; omega]
  rw [List.set_append_right _ _ (by simp)]
  simp [beU]

/-! ### bits -/
theorem mask_eq (k : Nat) (h : k ≤ 64) : 18446744073709551615 / 2 ^ (64 - k) = 2 ^ k - 1 := by
  have : ∀ k : Fin 65, 18446744073709551615 / 2 ^ (64 - k.val) = 2 ^ k.val - 1 := by decide +kernel
  exact this ⟨k, by omega⟩
/-- some bits of a number -/
def fieldN (n a k : Nat) : Nat := n / 2 ^ a % 2 ^ k
/-- a number with some of its bits set -/
def withN (n a k v : Nat) : Nat := (n &&& (18446744073709551615 - (2 ^ k - 1) * 2 ^ a)) ||| v % 2 ^ k * 2 ^ a

/-! ### a reader of bytes -/
/-- is a step of n bytes too long for what is left, or was one before? -/
def rawBad (l : List UInt8) (b : Bool) (n : Int) : Bool := b || decide (n < 0) || decide ((l.length : Int) < n)
def rawOut (l : List UInt8) (b : Bool) (n : Int) : List UInt8 := if rawBad l b n then [] else l.take n.toNat
def rawRest (l : List UInt8) (b : Bool) (n : Int) : List UInt8 := if rawBad l b n then l else l.drop n.toNat
/-- the size that is asked for, where it is one of a number -/
def numSize (n : Int) : Int := if 1 ≤ n ∧ n ≤ 8 then n else -1
theorem rawRest_le (l : List UInt8) (b : Bool) (n : Int) : (rawRest l b n).length ≤ l.length := by
  unfold rawRest
  split <;> simp
theorem rawOut_le (l : List UInt8) (b : Bool) (n : Int) : (rawOut l b n).length ≤ l.length := by
  unfold rawOut
  split <;> simp <;> omega
theorem rawOut_le_n (l : List UInt8) (b : Bool) (n : Int) (h : 0 ≤ n) : ((rawOut l b n).length : Int) ≤ n := by
  unfold rawOut
  split <;> simp <;> omega
theorem bs_ext {s t : ByteArray} (h : s.data.toList = t.data.toList) : s = t := ByteArray.ext (Array.ext' h)
theorem bs_extract (l : List UInt8) (a b : Nat) : (bs l).extract a b = bs ((l.drop a).take (b - a)) := by
  apply bs_ext
  rw [Go.Lib.extract_data]
  rfl
theorem bs_take (l : List UInt8) (n : Nat) : (bs l).extract 0 n = bs (l.take n) := by
  rw [bs_extract]
  rfl
theorem bs_drop (l : List UInt8) (n : Nat) : (bs l).extract n (bs l).size = bs (l.drop n) := by
  rw [bs_extract, bs_size, List.take_of_length_le (by simp)]
theorem bs_append (l m : List UInt8) : bs l ++ bs m = bs (l ++ m) := by
  apply bs_ext
  simp [bs]
theorem bs_inj {l m : List UInt8} : bs l = bs m ↔ l = m := by
  constructor
  · intro h
    have := congrArg (fun s => s.data.toList) h
    simpa [bs] using this
  · rintro rfl; rfl
theorem bs_toListE (l : List UInt8) : (bs l).toList = l := Go.Lib.toList_data _
theorem numU_append (l : List UInt8) (b : UInt8) : numU (l ++ [b]) = 256 * numU l + b.toNat := by simp [numU]
theorem numU_fold_lt : ∀ (l : List UInt8) (a : Nat), l.foldl (fun a b => 256 * a + b.toNat) a < (a + 1) * 256 ^ l.length
  | [], a => by simp
  | b :: l, a => by
    have := numU_fold_lt l (256 * a + b.toNat)
    have hb := b.toNat_lt
    rw [List.foldl_cons, List.length_cons, Nat.pow_succ]
    calc _ < (256 * a + b.toNat + 1) * 256 ^ l.length := this
      _ ≤ ((a + 1) * 256) * 256 ^ l.length := Nat.mul_le_mul_right _ (by omega)
      _ = _ := by rw [Nat.mul_assoc, Nat.mul_comm 256]
theorem numU_lt (l : List UInt8) : numU l < 256 ^ l.length := by
  have := numU_fold_lt l 0
  simpa [numU] using this
theorem field_step (n a c m : Nat) : 2 * (n / 2 ^ (a + c + 1) % 2 ^ m) + n / 2 ^ (a + c) % 2 = n / 2 ^ (a + c) % 2 ^ (m + 1) := by
  rw [Nat.pow_succ 2 (a + c), ← Nat.div_div_eq_div_mul]
  generalize n / 2 ^ (a + c) = y
  rw [Nat.pow_succ, Nat.mul_comm (2 ^ m) 2, Nat.mod_mul]
  omega
/-- what Bytes, Field and With answer, whatever they are asked -/
def bytesV (n size : Int) : List UInt8 := if 1 ≤ size ∧ size ≤ 8 then beU n.toNat size.toNat else []
def isField (a k : Int) : Bool := decide (0 ≤ a) && decide (a < 64) && decide (1 ≤ k) && decide (k ≤ 64 - a)
def fieldV (n a k : Int) : Int := if isField a k then ((fieldN n.toNat a.toNat k.toNat : Nat) : Int) else 0
def withV (n a k v : Int) : Int := if isField a k then ((withN n.toNat a.toNat k.toNat v.toNat : Nat) : Int) else n
theorem isField_yes {a k : Int} (h : isField a k = true) : 0 ≤ a ∧ a < 64 ∧ 1 ≤ k ∧ k ≤ 64 - a := by simp [isField] at h; omega
theorem isField_no {a k : Int} (h : isField a k = false) : a < 0 ∨ 64 ≤ a ∨ k < 1 ∨ (0 ≤ a ∧ a < 64 ∧ 64 - a < k) := by
  simp [isField] at h
  omega
theorem numU_take_succ (l : List UInt8) (k : Nat) (h : k < l.length) : numU (l.take (k + 1)) = 256 * numU (l.take k) + l[k].toNat := by
  rw [List.take_succ_eq_append_getElem h, numU_append]
theorem numU_small (l : List UInt8) (k : Nat) (h : l.length ≤ 8) (hk : k < l.length) : numU (l.take k) < 72057594037927936 := by
  have h1 := numU_lt (l.take k)
  have h2 : 256 ^ (l.take k).length ≤ 256 ^ 7 := Nat.pow_le_pow_right (by omega) (by rw [List.length_take]; omega)
  omega
theorem bs_get (l : List UInt8) (k : Nat) (h : k < l.length) : (bs l)[k]'(by rw [bs_size]; exact h) = l[k] := rfl
end Go.Proofs.Ytngpfjmifaecjaa
