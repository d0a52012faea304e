/- Plain words: images of sections; what is built is parsed again; what is parsed is built again; what has rotted is none. No program in sight. No condition. -/
import Derived.Test.YtclnginkplhlhaaPlainBack
import Derived.Test.YtclnginkplhlhaaPlainReads
import Derived.Test.YtclnginkplhlhaaPlainBurst
namespace Go.Proofs.Ytclnginkplhlhaa
/-- a section: its kind, its bytes -/
abbrev Sec := UInt8 × List UInt8
def encSec (x : Sec) : List UInt8 := x.1 :: (beU x.2.length 4 ++ x.2)
def encSecs (l : List Sec) : List UInt8 := l.flatMap encSec
/-- do the kinds rise? -/
def risingB : List Sec → Bool
  | x :: y :: l => decide (x.1.toNat < y.1.toNat) && risingB (y :: l)
  | _ => true
def goodV (v : Nat) : Bool := decide (1 ≤ v) && decide (v ≤ 3)
def magicL : List UInt8 := [71, 82, 68, 82]
def sumL (l : List UInt8) : List UInt8 := le4 (crcSum l)
def headL (v n : Nat) : List UInt8 := magicL ++ ([UInt8.ofNat v] ++ beU n 4)
def buildE (v : Nat) (l : List Sec) : Nat := if !goodV v then 8 else if !risingB l then 9 else 0
def imageL (v : Nat) (body : List UInt8) : List UInt8 := headL v body.length ++ body ++ sumL (headL v body.length ++ body)
def buildL (v : Nat) (l : List Sec) : List UInt8 := if buildE v l ≠ 0 then [] else imageL v (encSecs l)
/-- sections of some bytes, by so many steps at most -/
def decSecs : Nat → List UInt8 → Option (List Sec)
  | _, [] => some []
  | 0, _ => none
  | k + 1, x :: l => if l.length < 4 then none else if l.length - 4 < numU (l.take 4) then none else
    match decSecs k ((l.drop 4).drop (numU (l.take 4))) with
    | none => none
    | some r => some ((x, (l.drop 4).take (numU (l.take 4))) :: r)
def secE (l : List UInt8) : Nat := match decSecs l.length l with | none => 4 | some r => if risingB r then 0 else 9
def secS (l : List UInt8) : List Sec := match decSecs l.length l with | none => [] | some r => if risingB r then r else []
def bodyL (l : List UInt8) : List UInt8 := (l.drop 9).take (l.length - 13)
def parseE (l : List UInt8) : Nat :=
  if l.length < 13 then 2 else if l.take 4 ≠ magicL then 7 else if !goodV (l.getD 4 0).toNat then 8 else
  if l.length - 13 < numU ((l.drop 5).take 4) then 2 else if numU ((l.drop 5).take 4) < l.length - 13 then 3 else
  if l.drop (l.length - 4) ≠ sumL (l.take (l.length - 4)) then 5 else secE (bodyL l)
def parseV (l : List UInt8) : Nat := if parseE l ≠ 0 then 0 else (l.getD 4 0).toNat
def parseS (l : List UInt8) : List Sec := if parseE l ≠ 0 then [] else secS (bodyL l)

/-! ### sections -/
theorem decSecs_more : ∀ (k m : Nat) (l : List UInt8) (r : List Sec), decSecs k l = some r → k ≤ m → decSecs m l = some r
  | _, _, [], r, h, _ => by simpa [decSecs] using h
  | 0, _, _ :: _, r, h, _ => by simp [decSecs] at h
  | k + 1, m, x :: l, r, h, hm => by
    obtain ⟨m, rfl⟩ : ∃ m', m = m' + 1 := ⟨m - 1, by omega⟩
    unfold decSecs at h ⊢
    split at h
    · cases h
    · rename_i h1
      split at h
      · cases h
      · rename_i h2
        rw [if_neg h1, if_neg h2]
        split at h
        · cases h
        · rename_i r' hr
          rw [decSecs_more k m _ r' hr (by omega)]
          exact h
theorem encSec_length (x : Sec) : (encSec x).length = 5 + x.2.length := by simp [encSec, beU_length]; omega
theorem dec_encSecs : ∀ (l : List Sec) (k : Nat), (∀ x ∈ l, x.2.length < 4294967296) → (encSecs l).length ≤ k → decSecs k (encSecs l) = some l
  | [], k, _, _ => by cases k <;> rfl
  | x :: l, k, hx, hk => by
    have he : encSecs (x :: l) = x.1 :: (beU x.2.length 4 ++ (x.2 ++ encSecs l)) := by simp [encSecs, encSec]
    rw [he] at hk ⊢
    obtain ⟨k, rfl⟩ : ∃ k', k = k' + 1 := ⟨k - 1, by simp at hk; omega⟩
    have hb : (beU x.2.length 4).length = 4 := beU_length _ _
    have ht : (beU x.2.length 4 ++ (x.2 ++ encSecs l)).take 4 = beU x.2.length 4 := by
      have := List.take_left (l₁ := beU x.2.length 4) (l₂ := x.2 ++ encSecs l)
      rwa [hb] at this
    have hd : (beU x.2.length 4 ++ (x.2 ++ encSecs l)).drop 4 = x.2 ++ encSecs l := by
      have := List.drop_left (l₁ := beU x.2.length 4) (l₂ := x.2 ++ encSecs l)
      rwa [hb] at this
    have hn : numU (beU x.2.length 4) = x.2.length := by
      rw [numU_beU]
      exact Nat.mod_eq_of_lt (hx x (by simp))
    unfold decSecs
    rw [ht, hd, hn, if_neg (by simp [hb]), if_neg (by simp [hb]), List.drop_left, List.take_left, dec_encSecs l k (fun y hy => hx y (by simp [hy])) (by simp [hb] at hk; omega)]
theorem beU_numU (l : List UInt8) : beU (numU l) l.length = l := by
  have key : ∀ (l : List UInt8) (a : Nat), beU (l.foldl (fun a b => 256 * a + b.toNat) a) l.length = l := by
    intro l
    induction l with
    | nil => intro a; rfl
    | cons b l ih =>
      intro a
      rw [List.foldl_cons, List.length_cons, beU, ih]
      congr 1
      have hfold : ∀ (l : List UInt8) (a : Nat), l.foldl (fun a b => 256 * a + b.toNat) a = a * 256 ^ l.length + numU l := by
        intro l
        induction l with
        | nil => intro a; simp [numU]
        | cons c l ih2 =>
          intro a
          have h1 := ih2 (256 * a + c.toNat)
          have h2 := ih2 c.toNat
          have h3 : numU (c :: l) = c.toNat * 256 ^ l.length + numU l := by
            show List.foldl _ (256 * 0 + c.toNat) l = _
            rw [show 256 * 0 + c.toNat = c.toNat by omega, h2]
          rw [List.foldl_cons, h1, h3, List.length_cons, Nat.pow_succ, Nat.add_mul, Nat.add_assoc]
          congr 1
          rw [Nat.mul_comm 256 a, Nat.mul_assoc, Nat.mul_comm 256]
      have hlt := numU_lt l
      rw [hfold l (256 * a + b.toNat), byteU]
      have hp : 0 < 256 ^ l.length := Nat.pow_pos (by omega)
      rw [Nat.mul_comm, Nat.mul_add_div hp, Nat.div_eq_of_lt hlt, Nat.add_zero]
      have hbl := b.toNat_lt
      rw [show (256 * a + b.toNat) % 256 = b.toNat by omega, UInt8.ofNat_toNat]
  exact key l 0
theorem enc_decSecs : ∀ (k : Nat) (l : List UInt8) (r : List Sec), decSecs k l = some r → encSecs r = l ∧ (∀ x ∈ r, x.2.length ≤ l.length)
  | k, [], r, h => by
    have : r = [] := by cases k <;> simpa [decSecs] using h.symm
    subst this
    exact ⟨rfl, by simp⟩
  | 0, _ :: _, r, h => by simp [decSecs] at h
  | k + 1, x :: l, r, h => by
    unfold decSecs at h
    split at h
    · cases h
    · rename_i h1
      split at h
      · cases h
      · rename_i h2
        split at h
        · cases h
        · rename_i r' hr
          cases h
          obtain ⟨e, hb⟩ := enc_decSecs k _ r' hr
          have hlt : (l.take 4).length = 4 := by rw [List.length_take]; omega
          have hln : ((l.drop 4).take (numU (l.take 4))).length = numU (l.take 4) := by rw [List.length_take, List.length_drop]; omega
          refine ⟨?_, ?_⟩
          · have : encSecs ((x, (l.drop 4).take (numU (l.take 4))) :: r') = x :: (beU ((l.drop 4).take (numU (l.take 4))).length 4 ++ ((l.drop 4).take (numU (l.take 4)) ++ encSecs r')) := by simp [encSecs, encSec]
            rw [this, hln, e]
            have h4 := beU_numU (l.take 4)
            rw [hlt] at h4
            rw [h4, List.take_append_drop, List.take_append_drop]
          · intro y hy
            simp only [List.mem_cons] at hy
            rcases hy with rfl | hy
            · simp only
              rw [hln, List.length_cons]
              omega
            · have := hb y hy
              simp only [List.length_drop, List.length_cons] at this ⊢
              omega

/-! ### images -/
theorem imageL_length (v : Nat) (b : List UInt8) : (imageL v b).length = b.length + 13 := by
  simp [imageL, headL, magicL, sumL, le4, beU_length]; omega
theorem headL_length (v n : Nat) : (headL v n).length = 9 := by simp [headL, magicL, beU_length]
theorem image_cons (v : Nat) (b : List UInt8) (t : List UInt8) : headL v b.length ++ b ++ t = 71 :: 82 :: 68 :: 82 :: UInt8.ofNat v :: (beU b.length 4 ++ (b ++ t)) := by simp [headL, magicL]
theorem parse_image (v : Nat) (b : List UInt8) (hv : goodV v = true) (hb : b.length < 4294967296) :
    (imageL v b).take 4 = magicL ∧ ((imageL v b).getD 4 0).toNat = v ∧ numU (((imageL v b).drop 5).take 4) = b.length ∧ (imageL v b).drop ((imageL v b).length - 4) = sumL ((imageL v b).take ((imageL v b).length - 4)) ∧ bodyL (imageL v b) = b := by
  have hl := imageL_length v b
  have hh := headL_length v b.length
  have hv' : v ≤ 3 := by simp [goodV] at hv; omega
  have he := image_cons v b (sumL (headL v b.length ++ b))
  have hbe : (beU b.length 4).length = 4 := beU_length _ _
  refine ⟨?_, ?_, ?_, ?_, ?_⟩
  · rw [imageL, he]; rfl
  · rw [imageL, he]
    show (UInt8.ofNat v).toNat = v
    rw [UInt8.toNat_ofNat']
    omega
  · rw [imageL, he]
    show numU ((beU b.length 4 ++ (b ++ _)).take 4) = _
    have := List.take_left (l₁ := beU b.length 4) (l₂ := b ++ sumL (headL v b.length ++ b))
    rw [hbe] at this
    rw [this, numU_beU]
    exact Nat.mod_eq_of_lt hb
  · have e1 : (imageL v b).length - 4 = (headL v b.length ++ b).length := by rw [hl, List.length_append, hh]; omega
    rw [e1, imageL, List.take_left, List.drop_left]
  · rw [bodyL, hl, show b.length + 13 - 13 = b.length by omega, imageL, List.append_assoc, ← hh, List.drop_left, List.take_left]
theorem parse_build (v : Nat) (l : List Sec) (h : buildE v l = 0) (hx : ∀ x ∈ l, x.2.length < 4294967296) (hn : (encSecs l).length < 4294967296) :
    parseE (buildL v l) = 0 ∧ parseV (buildL v l) = v ∧ parseS (buildL v l) = l := by
  have hg : goodV v = true := by
    cases hg : goodV v
    · simp [buildE, hg] at h
    · rfl
  have hr : risingB l = true := by
    cases hr : risingB l
    · simp [buildE, hg, hr] at h
    · rfl
  have hb : buildL v l = imageL v (encSecs l) := by rw [buildL, if_neg (by simp [h])]
  obtain ⟨h1, h2, h3, h4, h5⟩ := parse_image v (encSecs l) hg hn
  have hl := imageL_length v (encSecs l)
  have hd := dec_encSecs l (encSecs l).length hx (Nat.le_refl _)
  have he : parseE (imageL v (encSecs l)) = 0 := by
    rw [parseE, if_neg (by omega), if_neg (by simp [h1]), h2, hg, h3, h5, if_neg (by simp), if_neg (by omega), if_neg (by omega), if_neg (by simp [h4]), secE, hd]
    simp [hr]
  rw [hb]
  refine ⟨he, by rw [parseV, he, if_neg (by simp), h2], ?_⟩
  rw [parseS, he, if_neg (by simp), h5, secS, hd]
  simp [hr]
theorem build_parse (l : List UInt8) (h : parseE l = 0) : buildE (parseV l) (parseS l) = 0 ∧ buildL (parseV l) (parseS l) = l := by
  have h0 := h
  unfold parseE at h
  split at h
  · cases h
  · rename_i h1
    split at h
    · cases h
    · rename_i h2
      split at h
      · cases h
      · rename_i h3
        split at h
        · cases h
        · rename_i h4
          split at h
          · cases h
          · rename_i h5
            split at h
            · cases h
            · rename_i h6
              have h3' : goodV (l.getD 4 0).toNat = true := by simpa using h3
              have h2' : l.take 4 = magicL := Decidable.byContradiction h2
              have h6' : l.drop (l.length - 4) = sumL (l.take (l.length - 4)) := Decidable.byContradiction h6
              have hn : numU ((l.drop 5).take 4) = l.length - 13 := by omega
              unfold secE at h
              split at h
              · cases h
              · rename_i r hr
                split at h
                · rename_i hrs
                  have hv : parseV l = (l.getD 4 0).toNat := by rw [parseV, h0, if_neg (by simp)]
                  have hs : parseS l = r := by rw [parseS, h0, if_neg (by simp), secS, hr]; simp [hrs]
                  have hbe : buildE (l.getD 4 0).toNat r = 0 := by rw [buildE, h3', hrs]; rfl
                  obtain ⟨hee, _⟩ := enc_decSecs _ _ _ hr
                  rw [hv, hs]
                  refine ⟨hbe, ?_⟩
                  rw [buildL, hbe, if_neg (by simp), hee, imageL]
                  have hbl : (bodyL l).length = l.length - 13 := by rw [bodyL, List.length_take, List.length_drop]; omega
                  have hhead : headL (l.getD 4 0).toNat (bodyL l).length = l.take 9 := by
                    rw [headL, ← h2', UInt8.ofNat_toNat, hbl, ← hn]
                    have h4l : ((l.drop 5).take 4).length = 4 := by rw [List.length_take, List.length_drop]; omega
                    have := beU_numU ((l.drop 5).take 4)
                    rw [h4l] at this
                    rw [this]
                    have e1 : [l.getD 4 0] ++ (l.drop 5).take 4 = (l.drop 4).take 5 := by
                      rw [List.drop_eq_getElem_cons (show 4 < l.length by omega), List.take_succ_cons]
                      simp [show 4 < l.length by omega]
                    rw [e1]
                    have := List.take_append_drop 4 (l.take 9)
                    rw [List.take_take, List.drop_take] at this
                    simpa using this
                  have hpre : headL (l.getD 4 0).toNat (bodyL l).length ++ bodyL l = l.take (l.length - 4) := by
                    rw [hhead, bodyL]
                    have := List.take_append_drop 9 (l.take (l.length - 4))
                    rw [List.take_take, List.drop_take, show min 9 (l.length - 4) = 9 by omega, show l.length - 4 - 9 = l.length - 13 by omega] at this
                    exact this
                  rw [hpre, ← h6', List.take_append_drop]
                · cases h

/-! ### what has rotted -/
theorem parse_sum (l : List UInt8) (h : parseE l = 0) : 13 ≤ l.length ∧ l.take 4 = magicL ∧ numU ((l.drop 5).take 4) = l.length - 13 ∧ l.drop (l.length - 4) = sumL (l.take (l.length - 4)) := by
  unfold parseE at h
  split at h
  · cases h
  · rename_i h1
    split at h
    · cases h
    · rename_i h2
      split at h
      · cases h
      · split at h
        · cases h
        · rename_i h4
          split at h
          · cases h
          · rename_i h5
            split at h
            · cases h
            · rename_i h6
              exact ⟨by omega, Decidable.byContradiction h2, by omega, Decidable.byContradiction h6⟩
theorem rot_cut (v : Nat) (b : List UInt8) (hv : goodV v = true) (hb : b.length < 4294967296) (c : Nat) (hc : c < (imageL v b).length) : parseE ((imageL v b).take c) ≠ 0 := by
  intro h
  obtain ⟨h1, _, h3, _⟩ := parse_sum _ h
  obtain ⟨_, _, i3, _, _⟩ := parse_image v b hv hb
  have hl := imageL_length v b
  rw [List.length_take] at h1 h3
  have e : (((imageL v b).take c).drop 5).take 4 = ((imageL v b).drop 5).take 4 := by
    rw [List.drop_take, List.take_take, show min 4 (c - 5) = 4 by omega]
  rw [e, i3] at h3
  omega
theorem rot_more (v : Nat) (b m : List UInt8) (hv : goodV v = true) (hb : b.length < 4294967296) (hm : m ≠ []) : parseE (imageL v b ++ m) ≠ 0 := by
  intro h
  obtain ⟨h1, _, h3, _⟩ := parse_sum _ h
  obtain ⟨_, _, i3, _, _⟩ := parse_image v b hv hb
  have hl := imageL_length v b
  have hm' : 0 < m.length := List.length_pos_iff.2 hm
  have e : ((imageL v b ++ m).drop 5).take 4 = ((imageL v b).drop 5).take 4 := by
    rw [List.drop_append_of_le_length (by omega), List.take_append_of_le_length (by rw [List.length_drop]; omega)]
  rw [e, i3, List.length_append] at h3
  omega
theorem rot_turn (v : Nat) (b : List UInt8) (a B : Int) (hne : turnV (imageL v b) a B ≠ imageL v b) : parseE (turnV (imageL v b) a B) ≠ 0 := by
  intro h
  obtain ⟨_, _, _, h4⟩ := parse_sum _ h
  have hl := imageL_length v b
  have hh := headL_length v b.length
  have hlen := turnV_length (imageL v b) a B
  have hpl : (headL v b.length ++ b).length = (turnV (imageL v b) a B).length - 4 := by rw [hlen, hl, List.length_append, hh]; omega
  have hf := burst_found (headL v b.length ++ b) a B (turnV (imageL v b) a B) rfl hne
  rw [hpl, h4] at hf
  exact hf (by rw [sumL, le4_val _ (crcSum_lt _)])
end Go.Proofs.Ytclnginkplhlhaa
