/- Plain words: a frame out of bytes; what is written is read again, and what is read is written again. No program in sight. No condition. -/
import Derived.Test.YtclnginkplhlhaaPlainFrame
import Derived.Test.YtclnginkplhlhaaPlainBack
namespace Go.Proofs.Ytclnginkplhlhaa
/-- a frame's addresses -/
def frA (x : Fr) : List UInt8 := [x.a0, x.a1, x.a2, x.a3, x.a4, x.a5]
def frB (x : Fr) : List UInt8 := [x.b0, x.b1, x.b2, x.b3, x.b4, x.b5]
def frH (x : Fr) : List UInt8 := frA x ++ frB x ++ (if x.tg then [129, 0] ++ beU x.info 2 else []) ++ beU x.ty 2
def encE (x : Fr) : Nat := if !x.good then 16 else if 1518 < (frH x).length + x.data.length then 3 else 0
def encL (x : Fr) : List UInt8 := if encE x = 0 then frH x ++ x.data else []

def typ0 (l : List UInt8) : Nat := numU ((l.drop 12).take 2)
def tciN (l : List UInt8) : Nat := numU ((l.drop 14).take 2)
def decE (l : List UInt8) : Nat :=
  if 1518 < l.length then 3 else if l.length < 14 then 2 else
  if typ0 l = 33024 then (if l.length < 18 then 2 else if 4094 < tciN l % 4096 then 16 else 0) else 0
/-- a frame of bytes, but for what stands behind its addresses -/
def frOf (l : List UInt8) (tg : Bool) (pcp : Nat) (dei : Bool) (vid ty : Nat) (data : List UInt8) : Fr :=
  ⟨l.getD 0 0, l.getD 1 0, l.getD 2 0, l.getD 3 0, l.getD 4 0, l.getD 5 0, l.getD 6 0, l.getD 7 0, l.getD 8 0, l.getD 9 0, l.getD 10 0, l.getD 11 0, tg, pcp, dei, vid, ty, data⟩
def decF (l : List UInt8) : Fr :=
  if decE l ≠ 0 then Fr.zero else
  if typ0 l = 33024 then frOf l true (tciN l / 8192) (decide (tciN l / 4096 % 2 = 1)) (tciN l % 4096) (numU ((l.drop 16).take 2)) (l.drop 18)
  else frOf l false 0 false 0 (typ0 l) (l.drop 14)

theorem numU_two (a b : UInt8) : numU [a, b] = 256 * a.toNat + b.toNat := by simp [numU]
theorem beU_two (n : Nat) : beU n 2 = [UInt8.ofNat (n / 256 % 256), UInt8.ofNat (n % 256)] := by simp [beU, byteU]
theorem beU_numU_two (a b : UInt8) : beU (numU [a, b]) 2 = [a, b] := by
  rw [numU_two, beU_two]
  have ha := a.toNat_lt
  have hb := b.toNat_lt
  congr 1
  · rw [show (256 * a.toNat + b.toNat) / 256 % 256 = a.toNat by omega, UInt8.ofNat_toNat]
  · congr 1
    rw [show (256 * a.toNat + b.toNat) % 256 = b.toNat by omega, UInt8.ofNat_toNat]
theorem numU_beU_two (n : Nat) (h : n < 65536) : numU (beU n 2) = n := by
  rw [numU_beU]
  exact Nat.mod_eq_of_lt (by omega)
theorem info_lt (x : Fr) (h1 : x.pcp ≤ 7) (h2 : x.vid ≤ 4094) : x.info < 65536 := by
  unfold Fr.info
  split <;> omega
theorem info_parts_of (x : Fr) (_h1 : x.pcp ≤ 7) (h2 : x.vid ≤ 4094) : x.info / 8192 = x.pcp ∧ decide (x.info / 4096 % 2 = 1) = x.dei ∧ x.info % 4096 = x.vid := by
  unfold Fr.info
  cases x.dei
  · refine ⟨by simp; omega, by simp; omega, by simp; omega⟩
  · refine ⟨by simp; omega, by simp; omega, by simp; omega⟩
theorem dec_plain (a0 a1 a2 a3 a4 a5 b0 b1 b2 b3 b4 b5 c d : UInt8) (data : List UInt8) (ty : Nat) (ht : numU [c, d] = ty) (hne : ty ≠ 33024) (hl : data.length ≤ 1504) :
    decE (a0 :: a1 :: a2 :: a3 :: a4 :: a5 :: b0 :: b1 :: b2 :: b3 :: b4 :: b5 :: c :: d :: data) = 0 ∧
    decF (a0 :: a1 :: a2 :: a3 :: a4 :: a5 :: b0 :: b1 :: b2 :: b3 :: b4 :: b5 :: c :: d :: data) = ⟨a0, a1, a2, a3, a4, a5, b0, b1, b2, b3, b4, b5, false, 0, false, 0, ty, data⟩ := by
  have et : typ0 (a0 :: a1 :: a2 :: a3 :: a4 :: a5 :: b0 :: b1 :: b2 :: b3 :: b4 :: b5 :: c :: d :: data) = ty := ht
  have ee : decE (a0 :: a1 :: a2 :: a3 :: a4 :: a5 :: b0 :: b1 :: b2 :: b3 :: b4 :: b5 :: c :: d :: data) = 0 := by
    unfold decE
    rw [et, if_neg (by simp; omega), if_neg (by simp), if_neg hne]
  refine ⟨ee, ?_⟩
  unfold decF
  rw [ee, et, if_neg (by simp), if_neg hne]
  rfl
theorem dec_tagged (a0 a1 a2 a3 a4 a5 b0 b1 b2 b3 b4 b5 g h c d : UInt8) (data : List UInt8) (n ty : Nat) (hn : numU [g, h] = n) (ht : numU [c, d] = ty) (hv : n % 4096 ≤ 4094) (hl : data.length ≤ 1500) :
    decE (a0 :: a1 :: a2 :: a3 :: a4 :: a5 :: b0 :: b1 :: b2 :: b3 :: b4 :: b5 :: 129 :: 0 :: g :: h :: c :: d :: data) = 0 ∧
    decF (a0 :: a1 :: a2 :: a3 :: a4 :: a5 :: b0 :: b1 :: b2 :: b3 :: b4 :: b5 :: 129 :: 0 :: g :: h :: c :: d :: data) = ⟨a0, a1, a2, a3, a4, a5, b0, b1, b2, b3, b4, b5, true, n / 8192, decide (n / 4096 % 2 = 1), n % 4096, ty, data⟩ := by
  have et : typ0 (a0 :: a1 :: a2 :: a3 :: a4 :: a5 :: b0 :: b1 :: b2 :: b3 :: b4 :: b5 :: 129 :: 0 :: g :: h :: c :: d :: data) = 33024 := rfl
  have ei : tciN (a0 :: a1 :: a2 :: a3 :: a4 :: a5 :: b0 :: b1 :: b2 :: b3 :: b4 :: b5 :: 129 :: 0 :: g :: h :: c :: d :: data) = n := hn
  have ee : decE (a0 :: a1 :: a2 :: a3 :: a4 :: a5 :: b0 :: b1 :: b2 :: b3 :: b4 :: b5 :: 129 :: 0 :: g :: h :: c :: d :: data) = 0 := by
    unfold decE
    rw [et, ei, if_neg (by simp; omega), if_neg (by simp), if_pos rfl, if_neg (by simp), if_neg (by omega)]
  refine ⟨ee, ?_⟩
  unfold decF
  rw [ee, et, ei, if_neg (by simp), if_pos rfl]
  subst ht
  rfl
theorem dec_short (a0 a1 a2 a3 a4 a5 b0 b1 b2 b3 b4 b5 c d : UInt8) (data : List UInt8) (ht : numU [c, d] = 33024) (hl : data.length < 4) :
    decE (a0 :: a1 :: a2 :: a3 :: a4 :: a5 :: b0 :: b1 :: b2 :: b3 :: b4 :: b5 :: c :: d :: data) = 2 ∧
    decF (a0 :: a1 :: a2 :: a3 :: a4 :: a5 :: b0 :: b1 :: b2 :: b3 :: b4 :: b5 :: c :: d :: data) = Fr.zero := by
  have et : typ0 (a0 :: a1 :: a2 :: a3 :: a4 :: a5 :: b0 :: b1 :: b2 :: b3 :: b4 :: b5 :: c :: d :: data) = 33024 := ht
  have ee : decE (a0 :: a1 :: a2 :: a3 :: a4 :: a5 :: b0 :: b1 :: b2 :: b3 :: b4 :: b5 :: c :: d :: data) = 2 := by
    unfold decE
    rw [et, if_neg (by simp; omega), if_neg (by simp), if_pos rfl, if_pos (by simp; omega)]
  refine ⟨ee, ?_⟩
  unfold decF
  rw [ee, if_pos (by simp)]
/-- a tagged frame, its number not said to be 129, 0 -/
theorem dec_tag (a0 a1 a2 a3 a4 a5 b0 b1 b2 b3 b4 b5 p q g h c d : UInt8) (data : List UInt8) (n ty : Nat) (hp : numU [p, q] = 33024) (hn : numU [g, h] = n) (ht : numU [c, d] = ty) (hl : data.length ≤ 1500) :
    decE (a0 :: a1 :: a2 :: a3 :: a4 :: a5 :: b0 :: b1 :: b2 :: b3 :: b4 :: b5 :: p :: q :: g :: h :: c :: d :: data) = (if 4094 < n % 4096 then 16 else 0) ∧
    decF (a0 :: a1 :: a2 :: a3 :: a4 :: a5 :: b0 :: b1 :: b2 :: b3 :: b4 :: b5 :: p :: q :: g :: h :: c :: d :: data) = (if 4094 < n % 4096 then Fr.zero else ⟨a0, a1, a2, a3, a4, a5, b0, b1, b2, b3, b4, b5, true, n / 8192, decide (n / 4096 % 2 = 1), n % 4096, ty, data⟩) := by
  have et : typ0 (a0 :: a1 :: a2 :: a3 :: a4 :: a5 :: b0 :: b1 :: b2 :: b3 :: b4 :: b5 :: p :: q :: g :: h :: c :: d :: data) = 33024 := hp
  have ei : tciN (a0 :: a1 :: a2 :: a3 :: a4 :: a5 :: b0 :: b1 :: b2 :: b3 :: b4 :: b5 :: p :: q :: g :: h :: c :: d :: data) = n := hn
  have ee : decE (a0 :: a1 :: a2 :: a3 :: a4 :: a5 :: b0 :: b1 :: b2 :: b3 :: b4 :: b5 :: p :: q :: g :: h :: c :: d :: data) = (if 4094 < n % 4096 then 16 else 0) := by
    unfold decE
    rw [et, ei, if_neg (by simp; omega), if_neg (by simp), if_pos rfl, if_neg (by simp)]
  refine ⟨ee, ?_⟩
  unfold decF
  rw [ee, et, ei]
  subst ht
  by_cases hv : 4094 < n % 4096
  · rw [if_pos hv, if_pos hv, if_pos (by decide)]
  · rw [if_neg hv, if_neg hv, if_neg (by decide), if_pos rfl]
    rfl
/-- what is written is read again -/
theorem dec_enc (x : Fr) (hx : x.ok) (h : encE x = 0) : decE (encL x) = 0 ∧ decF (encL x) = x := by
  have hl : encL x = frH x ++ x.data := by rw [encL, if_pos h]
  have hg : x.good = true := by
    cases hg : x.good
    · simp [encE, hg] at h
    · rfl
  have hlen : (frH x).length + x.data.length ≤ 1518 := by
    rw [encE, hg] at h
    simp at h
    omega
  rw [hl]
  obtain ⟨a0, a1, a2, a3, a4, a5, b0, b1, b2, b3, b4, b5, tg, pcp, dei, vid, ty, data⟩ := x
  obtain ⟨h1, h2, h3, h4⟩ := hx
  simp only at h1 h2 h3 h4
  have hty := numU_beU_two ty h3
  cases tg with
  | false =>
    have hgd : pcp = 0 ∧ dei = false ∧ vid = 0 ∧ ty ≠ 33024 := by simpa [Fr.good, and_assoc] using hg
    obtain ⟨rfl, rfl, rfl, hne⟩ := hgd
    have e : frH ⟨a0, a1, a2, a3, a4, a5, b0, b1, b2, b3, b4, b5, false, 0, false, 0, ty, data⟩ ++ data = a0 :: a1 :: a2 :: a3 :: a4 :: a5 :: b0 :: b1 :: b2 :: b3 :: b4 :: b5 :: UInt8.ofNat (ty / 256 % 256) :: UInt8.ofNat (ty % 256) :: data := by
      simp [frH, frA, frB, beU_two]
    have hle := congrArg List.length e
    rw [List.length_append] at hle
    rw [beU_two] at hty
    simp only [e]
    simp only [List.length_cons] at hle
    simp only at hlen
    exact dec_plain a0 a1 a2 a3 a4 a5 b0 b1 b2 b3 b4 b5 _ _ data ty hty hne (by omega)
  | true =>
    have hgd : pcp ≤ 7 ∧ vid ≤ 4094 := by simpa [Fr.good] using hg
    have hil := info_lt ⟨a0, a1, a2, a3, a4, a5, b0, b1, b2, b3, b4, b5, true, pcp, dei, vid, ty, data⟩ hgd.1 hgd.2
    have hip := info_parts_of ⟨a0, a1, a2, a3, a4, a5, b0, b1, b2, b3, b4, b5, true, pcp, dei, vid, ty, data⟩ hgd.1 hgd.2
    have e : frH ⟨a0, a1, a2, a3, a4, a5, b0, b1, b2, b3, b4, b5, true, pcp, dei, vid, ty, data⟩ ++ data = a0 :: a1 :: a2 :: a3 :: a4 :: a5 :: b0 :: b1 :: b2 :: b3 :: b4 :: b5 :: 129 :: 0 :: UInt8.ofNat (Fr.info ⟨a0, a1, a2, a3, a4, a5, b0, b1, b2, b3, b4, b5, true, pcp, dei, vid, ty, data⟩ / 256 % 256) :: UInt8.ofNat (Fr.info ⟨a0, a1, a2, a3, a4, a5, b0, b1, b2, b3, b4, b5, true, pcp, dei, vid, ty, data⟩ % 256) :: UInt8.ofNat (ty / 256 % 256) :: UInt8.ofNat (ty % 256) :: data := by
      simp [frH, frA, frB, beU_two]
    generalize Fr.info ⟨a0, a1, a2, a3, a4, a5, b0, b1, b2, b3, b4, b5, true, pcp, dei, vid, ty, data⟩ = n at *
    simp only at hip
    obtain ⟨i1, i2, i3⟩ := hip
    have hin := numU_beU_two n hil
    have hle := congrArg List.length e
    rw [List.length_append] at hle
    rw [beU_two] at hty hin
    simp only [e]
    simp only [List.length_cons] at hle
    simp only at hlen
    have := dec_tagged a0 a1 a2 a3 a4 a5 b0 b1 b2 b3 b4 b5 _ _ _ _ data n ty hin hty (by omega) (by omega)
    rw [i1, i2, i3] at this
    exact this
theorem take_two (l : List UInt8) (k : Nat) (h : k + 2 ≤ l.length) : (l.drop k).take 2 = [l.getD k 0, l.getD (k + 1) 0] := by
  rw [List.drop_eq_getElem_cons (show k < l.length by omega), List.take_succ_cons, List.drop_eq_getElem_cons (show k + 1 < l.length by omega), List.take_succ_cons, List.take_zero]
  simp [show k < l.length by omega, show k + 1 < l.length by omega]
theorem twelve (l : List UInt8) (h : 12 ≤ l.length) : [l.getD 0 0, l.getD 1 0, l.getD 2 0, l.getD 3 0, l.getD 4 0, l.getD 5 0] ++ [l.getD 6 0, l.getD 7 0, l.getD 8 0, l.getD 9 0, l.getD 10 0, l.getD 11 0] = l.take 12 := by
  apply List.ext_getElem?
  intro i
  by_cases hi : i < 12
  · rw [List.getElem?_take, if_pos hi]
    rcases (show i = 0 ∨ i = 1 ∨ i = 2 ∨ i = 3 ∨ i = 4 ∨ i = 5 ∨ i = 6 ∨ i = 7 ∨ i = 8 ∨ i = 9 ∨ i = 10 ∨ i = 11 by omega) with rfl | rfl | rfl | rfl | rfl | rfl | rfl | rfl | rfl | rfl | rfl | rfl <;> simp [show 0 < l.length by omega, show 1 < l.length by omega, show 2 < l.length by omega, show 3 < l.length by omega, show 4 < l.length by omega, show 5 < l.length by omega, show 6 < l.length by omega, show 7 < l.length by omega, show 8 < l.length by omega, show 9 < l.length by omega, show 10 < l.length by omega, show 11 < l.length by omega]
  · rw [List.getElem?_eq_none (by simp; omega), List.getElem?_eq_none (by simp; omega)]
theorem numU_two_lt (a b : UInt8) : numU [a, b] < 65536 := by
  rw [numU_two]
  have ha := a.toNat_lt
  have hb := b.toNat_lt
  omega
theorem typ0_lt (l : List UInt8) : numU (l.take 2) < 65536 := by
  have h := numU_lt (l.take 2)
  have h2 : 256 ^ (l.take 2).length ≤ 256 ^ 2 := Nat.pow_le_pow_right (by omega) (by rw [List.length_take]; omega)
  omega
theorem decF_ok (l : List UInt8) (hl : l.length ≤ 140737488351232) : (decF l).ok := by
  unfold decF
  have h1 := typ0_lt (l.drop 12)
  have h2 := typ0_lt (l.drop 14)
  have h3 := typ0_lt (l.drop 16)
  have h4 : tciN l < 65536 := h2
  split
  · exact ⟨by decide, by decide, by decide, by decide⟩
  · split
    · exact ⟨show tciN l / 8192 < 256 by omega, show tciN l % 4096 < 65536 by omega, h3, by simp [frOf]; omega⟩
    · exact ⟨show 0 < 256 by omega, show 0 < 65536 by omega, h1, by simp [frOf]; omega⟩
/-- what is read is written again -/
theorem enc_dec (l : List UInt8) (h : decE l = 0) : encE (decF l) = 0 ∧ encL (decF l) = l := by
  have hlen : l.length ≤ 1518 ∧ 14 ≤ l.length := by
    unfold decE at h
    constructor
    · apply Nat.le_of_not_lt
      intro hc
      rw [if_pos hc] at h
      omega
    · apply Nat.le_of_not_lt
      intro hc
      rw [if_neg (by omega), if_pos hc] at h
      omega
  have key : ∀ f : Fr, f.good = true → frH f ++ f.data = l → encE f = 0 ∧ encL f = l := by
    intro f hg hf
    have e : encE f = 0 := by
      have := congrArg List.length hf
      rw [List.length_append] at this
      rw [encE, hg, if_neg (by simp), if_neg (by omega)]
    exact ⟨e, by rw [encL, if_pos e, hf]⟩
  apply key
  · unfold decF
    rw [if_neg (by simp [h])]
    by_cases ht : typ0 l = 33024
    · rw [if_pos ht]
      have hv : tciN l % 4096 ≤ 4094 := by
        rw [decE, if_neg (by omega), if_neg (by omega), if_pos ht] at h
        split at h
        · omega
        · split at h <;> omega
      have : tciN l < 65536 := typ0_lt (l.drop 14)
      have h8 : tciN l / 8192 ≤ 7 := by omega
      simp [Fr.good, frOf, hv, h8]
    · rw [if_neg ht]
      simp [Fr.good, frOf, ht]
  · unfold decF
    rw [if_neg (by simp [h])]
    by_cases ht : typ0 l = 33024
    · have h18 : 18 ≤ l.length := by
        rw [decE, if_neg (by omega), if_neg (by omega), if_pos ht] at h
        split at h <;> omega
      rw [if_pos ht]
      have hi : Fr.info (frOf l true (tciN l / 8192) (decide (tciN l / 4096 % 2 = 1)) (tciN l % 4096) (numU ((l.drop 16).take 2)) (l.drop 18)) = tciN l := by
        simp only [Fr.info, frOf, decide_eq_true_eq]
        split <;> omega
      have h12 := twelve l (by omega)
      unfold frH frA frB
      rw [hi]
      simp only [frOf, if_true]
      rw [h12]
      have e1 : [(129 : UInt8), 0] = (l.drop 12).take 2 := by
        have := beU_numU_two (l.getD 12 0) (l.getD 13 0)
        rw [← take_two l 12 (by omega)] at this
        unfold typ0 at ht
        rw [ht] at this
        rw [← this]
        rfl
      have e2 : beU (tciN l) 2 = (l.drop 14).take 2 := by
        rw [tciN, take_two l 14 (by omega), beU_numU_two]
      have e3 : beU (numU ((l.drop 16).take 2)) 2 = (l.drop 16).take 2 := by
        rw [take_two l 16 (by omega), beU_numU_two]
      rw [e1, e2, e3]
      have s1 : l.drop 16 = (l.drop 16).take 2 ++ l.drop 18 := by
        have := (List.take_append_drop 2 (l.drop 16)).symm
        rwa [List.drop_drop] at this
      have s2 : l.drop 14 = (l.drop 14).take 2 ++ l.drop 16 := by
        have := (List.take_append_drop 2 (l.drop 14)).symm
        rwa [List.drop_drop] at this
      have s3 : l.drop 12 = (l.drop 12).take 2 ++ l.drop 14 := by
        have := (List.take_append_drop 2 (l.drop 12)).symm
        rwa [List.drop_drop] at this
      rw [List.append_assoc, List.append_assoc, List.append_assoc, ← s1, ← s2, ← s3, List.take_append_drop]
    · rw [if_neg ht]
      have h12 := twelve l (by omega)
      unfold frH frA frB
      simp only [frOf, Bool.false_eq_true, if_false, List.append_nil]
      rw [h12]
      have e3 : beU (typ0 l) 2 = (l.drop 12).take 2 := by
        rw [typ0, take_two l 12 (by omega), beU_numU_two]
      rw [e3]
      have s3 : l.drop 12 = (l.drop 12).take 2 ++ l.drop 14 := by
        have := (List.take_append_drop 2 (l.drop 12)).symm
        rwa [List.drop_drop] at this
      rw [List.append_assoc, ← s3, List.take_append_drop]
end Go.Proofs.Ytclnginkplhlhaa
