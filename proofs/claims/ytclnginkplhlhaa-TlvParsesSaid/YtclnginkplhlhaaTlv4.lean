/- The walk of girderref21.Build. Conditions: the number of sections, their length. (Printed by wip/mk4.py.) -/
import Derived.Test.YtclnginkplhlhaaTlv3
import Derived.Test.YtclnginkplhlhaaValS
namespace Go.Proofs.Ytclnginkplhlhaa
open Go.RowKit
set_option linter.unusedSimpArgs false
def rbD : List (Nat × Nat) := [(0, 40), (1, 41), (2, 42), (3, 43), (4, 44), (5, 45), (6, 46), (7, 47), (8, 48), (9, 49), (10, 50), (11, 51), (12, 52), (13, 53), (14, 54), (15, 55), (16, 56), (17, 57), (18, 58), (19, 59), (20, 60), (21, 61), (22, 62), (23, 63), (24, 7)]
def rbV (B dl : List UInt8) (bb off n cap k a : Nat) : Nat → Option Value
  | 0 => some (.string (bs B))
  | 1 => some (.slice (some ⟨bb, off, none⟩) n cap)
  | 2 => some (.int .i64 (k : Int))
  | 3 => some (.pointer (some ⟨bb, off + k * 2, none⟩))
  | 4 => some (.pointer (some ⟨bb, off + k * 2, none⟩))
  | 5 => some (.int .u8 (a : Int))
  | 7 => some (.string (bs [UInt8.ofNat a]))
  | 8 => some (.slice (some ⟨bb, off, none⟩) n cap)
  | 9 => some (.int .i64 (k : Int))
  | 10 => some (.pointer (some ⟨bb, off + k * 2, none⟩))
  | 11 => some (.pointer (some ⟨bb, off + k * 2 + 1, none⟩))
  | 12 => some (.string (bs dl))
  | 13 => some (.int .i64 (dl.length : Int))
  | 14 => some (.int .u64 (dl.length : Int))
  | 15 => some (.string (bs (beU dl.length 4)))
  | 16 => some (.string (bs ([UInt8.ofNat a] ++ beU dl.length 4)))
  | 17 => some (.slice (some ⟨bb, off, none⟩) n cap)
  | 18 => some (.int .i64 (k : Int))
  | 19 => some (.pointer (some ⟨bb, off + k * 2, none⟩))
  | 20 => some (.pointer (some ⟨bb, off + k * 2 + 1, none⟩))
  | 21 => some (.string (bs dl))
  | 22 => some (.string (bs ([UInt8.ofNat a] ++ beU dl.length 4 ++ dl)))
  | 23 => some (.string (bs (B ++ ([UInt8.ofNat a] ++ beU dl.length 4 ++ dl))))
  | 24 => some (.string (bs (B ++ ([UInt8.ofNat a] ++ beU dl.length 4 ++ dl))))
  | _ => none
def rcD : List (Nat × Nat) := [(0, 67), (1, 68), (2, 69), (3, 70), (4, 71), (5, 72), (6, 73), (7, 74), (8, 75), (9, 76), (10, 77), (11, 9)]
def rcV (B : List UInt8) (v : Nat) : Nat → Option Value
  | 0 => some (.int .u8 (v : Int))
  | 2 => some (.string (bs [UInt8.ofNat v]))
  | 3 => some (.string (bs (magicL ++ [UInt8.ofNat v])))
  | 4 => some (.string (bs B))
  | 5 => some (.int .i64 (B.length : Int))
  | 6 => some (.int .u64 (B.length : Int))
  | 7 => some (.string (bs (beU B.length 4)))
  | 8 => some (.string (bs (magicL ++ [UInt8.ofNat v] ++ beU B.length 4)))
  | 9 => some (.string (bs B))
  | 10 => some (.string (bs (magicL ++ [UInt8.ofNat v] ++ beU B.length 4 ++ B)))
  | 11 => some (.string (bs (magicL ++ [UInt8.ofNat v] ++ beU B.length 4 ++ B)))
  | _ => none
def rbE (a : Nat) (_ : Nat) (w : World) (v : Value) : Prop := ∃ g, v = .slice (some ⟨g, 0, none⟩) 1 1 ∧ Blk w g 5 [.int .u8 (a : Int)]
theorem rbE_kept (a : Nat) : ∀ i w w' v, Kept noB w w' → rbE a i w v → rbE a i w' v := by
  rintro i w w' v hk ⟨g, e, hb⟩
  exact ⟨g, e, hb.kept hk (fun e => e)⟩
def rbW (w0 : World) (f : Nat → Bool) (w : World) : Prop := Kept noB w0 w ∧ (f 24 = true → f 0 = true)
theorem WK {w0 w w' : World} {f : Nat → Bool} (i : Nat) (hi : i ≠ 24) (h : rbW w0 f w) (hk : Kept noB w w') : rbW w0 (fun j => decide (j = i) || f j) w' := by
  refine ⟨h.1.no hk, fun h24 => ?_⟩
  simp only [Bool.or_eq_true, decide_eq_true_eq] at h24 ⊢
  rcases h24 with e | e
  · exact absurd e.symm hi
  · exact .inr (h.2 e)
theorem WK24 {w0 w w' : World} {f : Nat → Bool} (h0 : f 0 = true) (h : rbW w0 f w) (hk : Kept noB w w') : rbW w0 (fun j => decide (j = 24) || f j) w' :=
  ⟨h.1.no hk, fun _ => by simp [h0]⟩
theorem run_string1 (w : World) (g a : Nat) (ha : a < 256) (hb : Blk w g 5 [.int .u8 (a : Int)]) : (convert 79 9 (.slice (some ⟨g, 0, none⟩) 1 1)).run Try.prog w = .ok (.string (bs [UInt8.ofNat a])) w := by
  have := run_convert_bytes_arg (P := Try.prog) w 79 5 Try.underlying79 Try.underlying5 g 0 1 1 [(a : Int)] (by simp) (fun i hi => by
    have : i = 0 := by omega
    subst this
    exact hb.cell 0) 9 Try.underlying9
  have e : strOfNums [(a : Int)] = bs [UInt8.ofNat a] := by
    rw [← strOf_vb]
    simp [Nat.mod_eq_of_lt ha]
  rw [this, e]
theorem rbuild_kind (v : Nat) (l : List Sec) (A : Option Addr) (cap : Nat) (w : World) (hv : goodV v = false) :
    Calls Try.prog 26 #[.int .u8 v, .slice A l.length cap] w fun e w' => e = .returned (.tuple #[.string (bs (buildL v l)), .int .i64 (buildE v l : Nat)]) ∧ Kept noB w w' := by
  have hE : buildE v l = 8 := by simp [buildE, hv]
  have hL : buildL v l = [] := by simp [buildL, hE]
  rw [hE, hL]
  go_enter Try.func26, Try.ntmps26
  rcases (show v < 1 ∨ (1 ≤ v ∧ 3 < v) by simp [goodV] at hv; omega) with h | ⟨h, h2⟩
  · have h' : (v : Int) < 1 := by omega
    go_wp2
    go_ret2
    exact ⟨rfl, Kept.refl _ _⟩
  · have h1 : decide ((v : Int) < 1) = false := by simp; omega
    have h' : (1 : Int) ≤ v := by omega
    have h2' : (3 : Int) < v := by omega
    go_wp2
    go_ret2
    exact ⟨rfl, Kept.refl _ _⟩
set_option maxRecDepth 100000 in
set_option maxHeartbeats 4000000 in
theorem rbuild_on (v : Nat) (l : List Sec) (A : Option Addr) (cap : Nat) (w : World) (hv : goodV v = true) (h : SecAt w A l) (hn : l.length ≤ maxLen) (hs : (encSecs l).length ≤ 1000000) :
    Calls Try.prog 26 #[.int .u8 v, .slice A l.length cap] w fun e w' => e = .returned (.tuple #[.string (bs (buildL v l)), .int .i64 (buildE v l : Nat)]) ∧ Kept noB w w' := by
  have hn' : l.length ≤ 9223372036854775807 := by unfold maxLen at hn; exact hn
  have hE9 : risingB l = false → buildE v l = 9 := fun hr => by simp [buildE, hv, hr]
  have hL9 : risingB l = false → buildL v l = [] := fun hr => by simp [buildL, hE9 hr]
  have hE0 : risingB l = true → buildE v l = 0 := fun hr => by simp [buildE, hv, hr]
  have hL0 : risingB l = true → buildL v l = imageL v (encSecs l) := fun hr => by simp [buildL, hE0 hr]
  have HE9 := Lib.hid hE9
  have HL9 := Lib.hid hL9
  have HE0 := Lib.hid hE0
  have HL0 := Lib.hid hL0
  clear hE9 hL9 hE0 hL0
  have hv1 : (1 : Int) ≤ v := by simp [goodV] at hv; omega
  have hv3 : (v : Int) ≤ 3 := by simp [goodV] at hv; omega
  have d1 : decide ((v : Int) < 1) = false := by simp; omega
  have d3 : decide ((3 : Int) < v) = false := by simp; omega
  clear hv
  go_enter Try.func26, Try.ntmps26
  go_wp2_with fail
  go_loopw [6] (fun i wr => ∃ k : Nat, 1 ≤ k ∧ (k ≤ l.length ∨ k = 1) ∧ i = .int .i64 k ∧ upTo l k ∧ ∃ d, wr = w.drewN d) (fun i _ => l.length - (intOf i).toNat)
  case atStart => exact ⟨1, Nat.le_refl _, .inr rfl, rfl, upTo_one l, 0, rfl⟩
  case round =>
    obtain ⟨k, hk1, hkl, rfl, hup, d, rfl⟩ := hrel
    by_cases hlt : k < l.length
    · have hlt' : (k : Int) < (l.length : Int) := by omega
      obtain ⟨bb, off, rfl, hc⟩ : ∃ bb off, A = some ⟨bb, off, none⟩ ∧ ∀ k x, l[k]? = some x → w.cell? ⟨bb, off + k * 2, none⟩ = some (.int .u8 (x.1.toNat : Int)) ∧ w.cell? ⟨bb, off + k * 2 + 1, none⟩ = some (.string (bs x.2)) := by
        rcases h with h | h
        · subst h
          simp at hlt
        · exact h
      obtain ⟨m, rfl⟩ : ∃ m, k = m + 1 := ⟨k - 1, by omega⟩
      obtain ⟨x, hx⟩ : ∃ x, l[m]? = some x := ⟨_, List.getElem?_eq_getElem (show m < l.length by omega)⟩
      obtain ⟨y, hy⟩ : ∃ y, l[m + 1]? = some y := ⟨_, List.getElem?_eq_getElem hlt⟩
      have c0 := (hc _ _ hx).1
      have c1 := (hc _ _ hy).1
      have hnx := fun hle => upTo_next hup hk1 hx hy hle
      have hno := fun hle => rising_not hx hy hle
      clear hc hx hy
      obtain ⟨a, ha⟩ : ∃ a : Nat, x.1.toNat = a := ⟨_, rfl⟩
      obtain ⟨b, hb⟩ : ∃ b : Nat, y.1.toNat = b := ⟨_, rfl⟩
      rw [ha, hb] at hnx hno
      rw [ha] at c0
      rw [hb] at c1
      have hm1 : ((m : Nat) : Int) < (l.length : Int) := by omega
      by_cases hle : b ≤ a
      · have hle' : (b : Int) ≤ (a : Int) := by omega
        have hR := Lib.hid (hno hle)
        clear hnx hno
        go_wp2_with fail
        go_quiet (fail)
        go_wp2_with fail
        go_ret2
        rw [HE9.out hR.out, HL9.out hR.out]
        exact ⟨rfl, ((Kept.refl _ _).drewN _).drewN _⟩
      · have hle' : (a : Int) < (b : Int) := by omega
        have hR := Lib.hid (hnx (by omega))
        clear hnx hno
        go_wp2_with fail
        go_quiet (fail)
        go_wp2_with fail
        exact ⟨⟨m + 1 + 1, by omega, by omega, by go_num, hR.out, _, rfl⟩, by simp [intOf]; omega⟩
    · have hge : (l.length : Int) ≤ (k : Int) := by omega
      have hR := rising_all l (fun j x y hj hx hy => hup j x y (by omega) hx hy)
      have HR := Lib.hid hR
      have h2 := h.kept ((Kept.refl _ w).drewN d)
      have k2 : Kept noB w (w.drewN d) := (Kept.refl _ w).drewN d
      generalize w.drewN d = w2 at *
      clear h hup hR
      go_wp2_with fail
      go_loopw [7, 8] (fun b i wr => ∃ k : Nat, k ≤ l.length ∧ i = .int .i64 k ∧ b = .string (bs (encSecs (l.take k))) ∧ Kept noB w2 wr) (fun _ i _ => l.length - (intOf i).toNat)
      case atStart => exact ⟨0, Nat.zero_le _, rfl, rfl, Kept.refl _ _⟩
      case round =>
        obtain ⟨k, hkl, rfl, rfl, hk⟩ := hrel
        by_cases hlt : k < l.length
        · have hlt' : (k : Int) < (l.length : Int) := by omega
          have hr3 := h2.kept hk
          obtain ⟨bb, off, rfl, hc⟩ : ∃ bb off, A = some ⟨bb, off, none⟩ ∧ ∀ k x, l[k]? = some x → wr.cell? ⟨bb, off + k * 2, none⟩ = some (.int .u8 (x.1.toNat : Int)) ∧ wr.cell? ⟨bb, off + k * 2 + 1, none⟩ = some (.string (bs x.2)) := by
            rcases hr3 with h | h
            · subst h
              simp at hlt
            · exact h
          obtain ⟨x, hx⟩ : ∃ x, l[k]? = some x := ⟨_, List.getElem?_eq_getElem hlt⟩
          obtain ⟨c0, c1⟩ := hc _ _ hx
          have hst := encSecs_take l k x hx
          have hle := encSecs_le l (k + 1)
          rw [hst] at hle
          have hbl : (encSecs (l.take k)).length + x.2.length + 5 ≤ 1000000 := by simp [beU_length] at hle; omega
          clear hc hle hr3 hx
          obtain ⟨a, ha⟩ : ∃ a : Nat, x.1.toNat = a := ⟨_, rfl⟩
          obtain ⟨dl, hd⟩ : ∃ dl, x.2 = dl := ⟨_, rfl⟩
          have ha2 : a < 256 := by rw [← ha]; exact x.1.toNat_lt
          rw [ha] at c0 hst
          rw [hd] at c1 hst hbl
          have HS := Lib.hid hst
          clear hst
          generalize encSecs (l.take k) = B at *
          go_wp2_with fail
          have ov1 : ¬ 9223372036854775807 < 5 + dl.length := by omega
          have ov2 : ¬ 9223372036854775807 < B.length + (5 + dl.length) := by omega
          have wl : IntKind.u64.wrap (dl.length : Int) = (dl.length : Int) := u64_wrap_nat _ (by omega)
          have hex := rbE_kept a
          have hkn1 : (k : Int) < (l.length : Int) := by omega
          have ha := ha2
          refine wp_region_inv (by kernel_rfl) (by kernel_rfl) (Slots _ rbD (valS (rbV B dl bb off l.length cap k a) (rbE a)) (rbW wr)) (Slots.start ⟨(Kept.refl _ _).drew, fun h => h⟩) ?_ ?_
          · intro f a' wz hI i o ho hfi hall
            have hi : i < 25 := (Array.getElem?_eq_some_iff.1 ho).1
            have hW := hI.world
            rcases (by omega : i = 0 ∨ i = 1 ∨ i = 2 ∨ i = 3 ∨ i = 4 ∨ i = 5 ∨ i = 6 ∨ i = 7 ∨ i = 8 ∨ i = 9 ∨ i = 10 ∨ i = 11 ∨ i = 12 ∨ i = 13 ∨ i = 14 ∨ i = 15 ∨ i = 16 ∨ i = 17 ∨ i = 18 ∨ i = 19 ∨ i = 20 ∨ i = 21 ∨ i = 22 ∨ i = 23 ∨ i = 24) with rfl | rfl | rfl | rfl | rfl | rfl | rfl | rfl | rfl | rfl | rfl | rfl | rfl | rfl | rfl | rfl | rfl | rfl | rfl | rfl | rfl | rfl | rfl | rfl | rfl
            all_goals
              simp only [List.getElem?_toArray, List.getElem?_cons_zero, List.getElem?_cons_succ, Option.some.injEq] at ho
              subst ho
            · have f24 : f 24 = false := by cases hx : f 24 <;> first | rfl | exact absurd (hW.2 hx) (by rw [hfi]; exact Bool.false_ne_true)
              have e7 : a'.eval (.tmp 7) = .string (bs B) := (hI.fresh (k := 24) (d := 7) (by decide) f24).trans rfl
              refine wp_value (w' := wz) ?_ (VS.step hI (d := 40) (by kernel_rfl) (by decide) rfl (WK 0 (by decide) hW (Kept.refl _ _)) (Kept.refl _ _) hex)
              (unfold execOp; simp only [List.map_toArray, List.map_cons, List.map_nil, e7]; (try simp [go_sem, e7]); try omega)
            · have e1 : a'.eval (.tmp 1) = .slice (some ⟨bb, off, none⟩) l.length cap := hI.old (by decide)
              refine wp_value (w' := wz) ?_ (VS.step hI (d := 41) (by kernel_rfl) (by decide) rfl (WK 1 (by decide) hW (Kept.refl _ _)) (Kept.refl _ _) hex)
              (unfold execOp; simp only [List.map_toArray, List.map_cons, List.map_nil, e1]; (try simp [go_sem, e1]); try omega)
            · have e8 : a'.eval (.tmp 8) = .int .i64 (k : Int) := hI.old (by decide)
              refine wp_value (w' := wz) ?_ (VS.step hI (d := 42) (by kernel_rfl) (by decide) rfl (WK 2 (by decide) hW (Kept.refl _ _)) (Kept.refl _ _) hex)
              (unfold execOp; simp only [List.map_toArray, List.map_cons, List.map_nil, e8]; (try simp [go_sem, e8]); try omega)
            · have f1 : f 1 = true := hall ⟨1, .data⟩ (by simp) rfl
              have e41 : a'.eval (.tmp 41) = .slice (some ⟨bb, off, none⟩) l.length cap := hI.eval (k := 1) (d := 41) (by decide) f1
              have f2 : f 2 = true := hall ⟨2, .data⟩ (by simp) rfl
              have e42 : a'.eval (.tmp 42) = .int .i64 (k : Int) := hI.eval (k := 2) (d := 42) (by decide) f2
              refine wp_value (w' := wz) ?_ (VS.step hI (d := 43) (by kernel_rfl) (by decide) rfl (WK 3 (by decide) hW (Kept.refl _ _)) (Kept.refl _ _) hex)
              (unfold execOp; simp only [List.map_toArray, List.map_cons, List.map_nil, e41, e42, hkn1]; (try simp [go_sem, e41, e42, hkn1]); try omega)
            · have f3 : f 3 = true := hall ⟨3, .data⟩ (by simp) rfl
              have e43 : a'.eval (.tmp 43) = .pointer (some ⟨bb, off + k * 2, none⟩) := hI.eval (k := 3) (d := 43) (by decide) f3
              refine wp_value (w' := wz) ?_ (VS.step hI (d := 44) (by kernel_rfl) (by decide) rfl (WK 4 (by decide) hW (Kept.refl _ _)) (Kept.refl _ _) hex)
              (unfold execOp; simp only [List.map_toArray, List.map_cons, List.map_nil, e43]; (try simp [go_sem, e43]); try omega)
            · have f4 : f 4 = true := hall ⟨4, .data⟩ (by simp) rfl
              have e44 : a'.eval (.tmp 44) = .pointer (some ⟨bb, off + k * 2, none⟩) := hI.eval (k := 4) (d := 44) (by decide) f4
              refine wp_value (w' := wz) ?_ (VS.step hI (d := 45) (by kernel_rfl) (by decide) rfl (WK 5 (by decide) hW (Kept.refl _ _)) (Kept.refl _ _) hex)
              (unfold execOp; simp only [List.map_toArray, List.map_cons, List.map_nil, e44, hW.1.cell c0 (fun e => e)]; (try simp [go_sem, e44, hW.1.cell c0 (fun e => e)]); try omega)
            · have f5 : f 5 = true := hall ⟨5, .data⟩ (by simp) rfl
              have e45 : a'.eval (.tmp 45) = .int .u8 (a : Int) := hI.eval (k := 5) (d := 45) (by decide) f5
              refine wp_value (w' := wz.alloc (.cells #[.int .u8 (a : Int)] 5)) ?_ (VS.put hI (d := 46) (v := .slice (some ⟨wz.heap.size, 0, none⟩) 1 1) (by kernel_rfl) (by decide) (fun _ => ⟨_, rfl, Blk.new wz 5 [.int .u8 (a : Int)]⟩) (WK 6 (by decide) hW ((Kept.refl _ _).alloc _)) ((Kept.refl _ _).alloc _) hex)
              (unfold execOp; simp only [List.map_toArray, List.map_cons, List.map_nil, e45]; (try simp [go_sem, e45]); try omega)
            · have f6 : f 6 = true := hall ⟨6, .data⟩ (by simp) rfl
              have e46 := hI.eval (k := 6) (d := 46) (by decide) f6
              obtain ⟨g, e46, hb⟩ := e46
              have hrun := run_string1 wz g a ha hb
              rw [← e46] at hrun
              exact wp_value (run_val hrun) (VS.step hI (d := 47) (by kernel_rfl) (by decide) rfl (WK 7 (by decide) hW (Kept.refl _ _)) (Kept.refl _ _) hex)
            · have e1 : a'.eval (.tmp 1) = .slice (some ⟨bb, off, none⟩) l.length cap := hI.old (by decide)
              refine wp_value (w' := wz) ?_ (VS.step hI (d := 48) (by kernel_rfl) (by decide) rfl (WK 8 (by decide) hW (Kept.refl _ _)) (Kept.refl _ _) hex)
              (unfold execOp; simp only [List.map_toArray, List.map_cons, List.map_nil, e1]; (try simp [go_sem, e1]); try omega)
            · have e8 : a'.eval (.tmp 8) = .int .i64 (k : Int) := hI.old (by decide)
              refine wp_value (w' := wz) ?_ (VS.step hI (d := 49) (by kernel_rfl) (by decide) rfl (WK 9 (by decide) hW (Kept.refl _ _)) (Kept.refl _ _) hex)
              (unfold execOp; simp only [List.map_toArray, List.map_cons, List.map_nil, e8]; (try simp [go_sem, e8]); try omega)
            · have f8 : f 8 = true := hall ⟨8, .data⟩ (by simp) rfl
              have e48 : a'.eval (.tmp 48) = .slice (some ⟨bb, off, none⟩) l.length cap := hI.eval (k := 8) (d := 48) (by decide) f8
              have f9 : f 9 = true := hall ⟨9, .data⟩ (by simp) rfl
              have e49 : a'.eval (.tmp 49) = .int .i64 (k : Int) := hI.eval (k := 9) (d := 49) (by decide) f9
              refine wp_value (w' := wz) ?_ (VS.step hI (d := 50) (by kernel_rfl) (by decide) rfl (WK 10 (by decide) hW (Kept.refl _ _)) (Kept.refl _ _) hex)
              (unfold execOp; simp only [List.map_toArray, List.map_cons, List.map_nil, e48, e49, hkn1]; (try simp [go_sem, e48, e49, hkn1]); try omega)
            · have f10 : f 10 = true := hall ⟨10, .data⟩ (by simp) rfl
              have e50 : a'.eval (.tmp 50) = .pointer (some ⟨bb, off + k * 2, none⟩) := hI.eval (k := 10) (d := 50) (by decide) f10
              refine wp_value (w' := wz) ?_ (VS.step hI (d := 51) (by kernel_rfl) (by decide) rfl (WK 11 (by decide) hW (Kept.refl _ _)) (Kept.refl _ _) hex)
              (unfold execOp; simp only [List.map_toArray, List.map_cons, List.map_nil, e50]; (try simp [go_sem, e50]); try omega)
            · have f11 : f 11 = true := hall ⟨11, .data⟩ (by simp) rfl
              have e51 : a'.eval (.tmp 51) = .pointer (some ⟨bb, off + k * 2 + 1, none⟩) := hI.eval (k := 11) (d := 51) (by decide) f11
              refine wp_value (w' := wz) ?_ (VS.step hI (d := 52) (by kernel_rfl) (by decide) rfl (WK 12 (by decide) hW (Kept.refl _ _)) (Kept.refl _ _) hex)
              (unfold execOp; simp only [List.map_toArray, List.map_cons, List.map_nil, e51, hW.1.cell c1 (fun e => e)]; (try simp [go_sem, e51, hW.1.cell c1 (fun e => e)]); try omega)
            · have f12 : f 12 = true := hall ⟨12, .data⟩ (by simp) rfl
              have e52 : a'.eval (.tmp 52) = .string (bs dl) := hI.eval (k := 12) (d := 52) (by decide) f12
              have re52 := e52
              simp only [Act.eval, Array.getD_eq_getD_getElem?] at re52
              refine wp_value (w' := wz) ?_ (VS.step hI (d := 53) (by kernel_rfl) (by decide) rfl (WK 13 (by decide) hW (Kept.refl _ _)) (Kept.refl _ _) hex)
              (unfold execOp; simp only [List.map_toArray, List.map_cons, List.map_nil, e52, re52, bs_size]; (try simp [go_sem, e52, re52, bs_size]); try omega)
            · have f13 : f 13 = true := hall ⟨13, .data⟩ (by simp) rfl
              have e53 : a'.eval (.tmp 53) = .int .i64 (dl.length : Int) := hI.eval (k := 13) (d := 53) (by decide) f13
              refine wp_value (w' := wz) ?_ (VS.step hI (d := 54) (by kernel_rfl) (by decide) rfl (WK 14 (by decide) hW (Kept.refl _ _)) (Kept.refl _ _) hex)
              (unfold execOp; simp only [List.map_toArray, List.map_cons, List.map_nil, e53, wl]; (try simp [go_sem, e53, wl]); try omega)
            · have f14 : f 14 = true := hall ⟨14, .data⟩ (by simp) rfl
              have e54 : a'.eval (.tmp 54) = .int .u64 (dl.length : Int) := hI.eval (k := 14) (d := 54) (by decide) f14
              refine wp_go Try.func40 rfl rfl (args := #[.int .u64 (dl.length : Int), .int .i64 4]) (by simp only [List.map_toArray, List.map_cons, List.map_nil, e54]; rfl) ((rbytes_calls (dl.length : Int) 4 wz (by omega) (by omega)).mono ?_)
              rintro e w' ⟨rfl, hk⟩
              refine ⟨_, rfl, VS.step hI (d := 55) (by kernel_rfl) (by decide) (by rw [bV4]; rfl) (WK 15 (by decide) hW hk) hk hex⟩
            · have f7 : f 7 = true := hall ⟨7, .data⟩ (by simp) rfl
              have e47 : a'.eval (.tmp 47) = .string (bs [UInt8.ofNat a]) := hI.eval (k := 7) (d := 47) (by decide) f7
              have f15 : f 15 = true := hall ⟨15, .data⟩ (by simp) rfl
              have e55 : a'.eval (.tmp 55) = .string (bs (beU dl.length 4)) := hI.eval (k := 15) (d := 55) (by decide) f15
              refine wp_value (w' := wz) ?_ (VS.step hI (d := 56) (by kernel_rfl) (by decide) rfl (WK 16 (by decide) hW (Kept.refl _ _)) (Kept.refl _ _) hex)
              (unfold execOp; simp only [List.map_toArray, List.map_cons, List.map_nil, e47, e55, bs_append, bs_size, beU_length]; (try simp [go_sem, e47, e55, bs_append, bs_size, beU_length]); try omega)
            · have e1 : a'.eval (.tmp 1) = .slice (some ⟨bb, off, none⟩) l.length cap := hI.old (by decide)
              refine wp_value (w' := wz) ?_ (VS.step hI (d := 57) (by kernel_rfl) (by decide) rfl (WK 17 (by decide) hW (Kept.refl _ _)) (Kept.refl _ _) hex)
              (unfold execOp; simp only [List.map_toArray, List.map_cons, List.map_nil, e1]; (try simp [go_sem, e1]); try omega)
            · have e8 : a'.eval (.tmp 8) = .int .i64 (k : Int) := hI.old (by decide)
              refine wp_value (w' := wz) ?_ (VS.step hI (d := 58) (by kernel_rfl) (by decide) rfl (WK 18 (by decide) hW (Kept.refl _ _)) (Kept.refl _ _) hex)
              (unfold execOp; simp only [List.map_toArray, List.map_cons, List.map_nil, e8]; (try simp [go_sem, e8]); try omega)
            · have f17 : f 17 = true := hall ⟨17, .data⟩ (by simp) rfl
              have e57 : a'.eval (.tmp 57) = .slice (some ⟨bb, off, none⟩) l.length cap := hI.eval (k := 17) (d := 57) (by decide) f17
              have f18 : f 18 = true := hall ⟨18, .data⟩ (by simp) rfl
              have e58 : a'.eval (.tmp 58) = .int .i64 (k : Int) := hI.eval (k := 18) (d := 58) (by decide) f18
              refine wp_value (w' := wz) ?_ (VS.step hI (d := 59) (by kernel_rfl) (by decide) rfl (WK 19 (by decide) hW (Kept.refl _ _)) (Kept.refl _ _) hex)
              (unfold execOp; simp only [List.map_toArray, List.map_cons, List.map_nil, e57, e58, hkn1]; (try simp [go_sem, e57, e58, hkn1]); try omega)
            · have f19 : f 19 = true := hall ⟨19, .data⟩ (by simp) rfl
              have e59 : a'.eval (.tmp 59) = .pointer (some ⟨bb, off + k * 2, none⟩) := hI.eval (k := 19) (d := 59) (by decide) f19
              refine wp_value (w' := wz) ?_ (VS.step hI (d := 60) (by kernel_rfl) (by decide) rfl (WK 20 (by decide) hW (Kept.refl _ _)) (Kept.refl _ _) hex)
              (unfold execOp; simp only [List.map_toArray, List.map_cons, List.map_nil, e59]; (try simp [go_sem, e59]); try omega)
            · have f20 : f 20 = true := hall ⟨20, .data⟩ (by simp) rfl
              have e60 : a'.eval (.tmp 60) = .pointer (some ⟨bb, off + k * 2 + 1, none⟩) := hI.eval (k := 20) (d := 60) (by decide) f20
              refine wp_value (w' := wz) ?_ (VS.step hI (d := 61) (by kernel_rfl) (by decide) rfl (WK 21 (by decide) hW (Kept.refl _ _)) (Kept.refl _ _) hex)
              (unfold execOp; simp only [List.map_toArray, List.map_cons, List.map_nil, e60, hW.1.cell c1 (fun e => e)]; (try simp [go_sem, e60, hW.1.cell c1 (fun e => e)]); try omega)
            · have f16 : f 16 = true := hall ⟨16, .data⟩ (by simp) rfl
              have e56 : a'.eval (.tmp 56) = .string (bs ([UInt8.ofNat a] ++ beU dl.length 4)) := hI.eval (k := 16) (d := 56) (by decide) f16
              have f21 : f 21 = true := hall ⟨21, .data⟩ (by simp) rfl
              have e61 : a'.eval (.tmp 61) = .string (bs dl) := hI.eval (k := 21) (d := 61) (by decide) f21
              refine wp_value (w' := wz) ?_ (VS.step hI (d := 62) (by kernel_rfl) (by decide) rfl (WK 22 (by decide) hW (Kept.refl _ _)) (Kept.refl _ _) hex)
              (unfold execOp; simp only [List.map_toArray, List.map_cons, List.map_nil, e56, e61, bs_append, bs_size, beU_length, ov1]; (try simp [go_sem, e56, e61, bs_append, bs_size, beU_length, ov1]); try omega)
            · have f0 : f 0 = true := hall ⟨0, .data⟩ (by simp) rfl
              have e40 : a'.eval (.tmp 40) = .string (bs B) := hI.eval (k := 0) (d := 40) (by decide) f0
              have f22 : f 22 = true := hall ⟨22, .data⟩ (by simp) rfl
              have e62 : a'.eval (.tmp 62) = .string (bs ([UInt8.ofNat a] ++ beU dl.length 4 ++ dl)) := hI.eval (k := 22) (d := 62) (by decide) f22
              refine wp_value (w' := wz) ?_ (VS.step hI (d := 63) (by kernel_rfl) (by decide) rfl (WK 23 (by decide) hW (Kept.refl _ _)) (Kept.refl _ _) hex)
              (unfold execOp; simp only [List.map_toArray, List.map_cons, List.map_nil, e40, e62, bs_append, bs_size, beU_length, ov2]; (try simp [go_sem, e40, e62, bs_append, bs_size, beU_length, ov2]); try omega)
            · have f23 : f 23 = true := hall ⟨23, .data⟩ (by simp) rfl
              have e63 : a'.eval (.tmp 63) = .string (bs (B ++ ([UInt8.ofNat a] ++ beU dl.length 4 ++ dl))) := hI.eval (k := 23) (d := 63) (by decide) f23
              refine wp_value (w' := wz) ?_ (VS.step hI (d := 7) (by kernel_rfl) (by decide) rfl (WK24 (hall ⟨0, .phase⟩ (by simp) rfl) hW (Kept.refl _ _)) (Kept.refl _ _) hex)
              (unfold execOp; simp only [List.map_toArray, List.map_cons, List.map_nil, e63]; (try simp [go_sem, e63]); try omega)
          · intro f a' wz hf hI
            have e7 : a'.tmps.getD 7 undef = .string (bs (B ++ ([UInt8.ofNat a] ++ beU dl.length 4 ++ dl))) := hI.slot (24, 7) (by decide) (hf 24 (by decide))
            have kz := hk.no hI.world.1
            have ho := hI.out
            clear hI hf
            simp only [rbD, List.foldl_cons, List.foldl_nil] at ho
            generalize a'.tmps.getD 40 undef = y40 at *
            generalize a'.tmps.getD 41 undef = y41 at *
            generalize a'.tmps.getD 42 undef = y42 at *
            generalize a'.tmps.getD 43 undef = y43 at *
            generalize a'.tmps.getD 44 undef = y44 at *
            generalize a'.tmps.getD 45 undef = y45 at *
            generalize a'.tmps.getD 46 undef = y46 at *
            generalize a'.tmps.getD 47 undef = y47 at *
            generalize a'.tmps.getD 48 undef = y48 at *
            generalize a'.tmps.getD 49 undef = y49 at *
            generalize a'.tmps.getD 50 undef = y50 at *
            generalize a'.tmps.getD 51 undef = y51 at *
            generalize a'.tmps.getD 52 undef = y52 at *
            generalize a'.tmps.getD 53 undef = y53 at *
            generalize a'.tmps.getD 54 undef = y54 at *
            generalize a'.tmps.getD 55 undef = y55 at *
            generalize a'.tmps.getD 56 undef = y56 at *
            generalize a'.tmps.getD 57 undef = y57 at *
            generalize a'.tmps.getD 58 undef = y58 at *
            generalize a'.tmps.getD 59 undef = y59 at *
            generalize a'.tmps.getD 60 undef = y60 at *
            generalize a'.tmps.getD 61 undef = y61 at *
            generalize a'.tmps.getD 62 undef = y62 at *
            generalize a'.tmps.getD 63 undef = y63 at *
            rw [e7] at ho
            subst ho
            simp only [List.setIfInBounds_toArray, List.set_cons_zero, List.set_cons_succ]
            clear c0 c1
            go_wp2_with fail
            refine ⟨⟨k + 1, by omega, by go_num, ?_, kz⟩, by simp [intOf]; omega⟩
            rw [HS.out]
        · have hge : (l.length : Int) ≤ (k : Int) := by omega
          have hkl2 : l.take k = l := List.take_of_length_le (by omega)
          rw [hkl2]
          have kz := k2.no hk
          have hI0 : imageL v (encSecs l) = (magicL ++ [UInt8.ofNat v] ++ beU (encSecs l).length 4 ++ encSecs l) ++ sumL (magicL ++ [UInt8.ofNat v] ++ beU (encSecs l).length 4 ++ encSecs l) := by simp [imageL, headL]
          have HI := Lib.hid hI0
          clear hI0 hk h2 hkl hkl2
          have hm : (⟨#[71, 82, 68, 82]⟩ : ByteArray) = bs magicL := rfl
          have sM : (bs magicL).size = 4 := rfl
          have lM : magicL.length = 4 := rfl
          generalize hBe : encSecs l = B at *
          have HB := Lib.hid hBe
          clear hBe
          have hlb : (bs B).size ≤ 1000000 := by rw [bs_size]; exact hs
          have hlb' : ¬ 16777216 < (bs B).size := by omega
          have wb : IntKind.u64.wrap (B.length : Int) = (B.length : Int) := u64_wrap_nat _ (by omega)
          have hex := rbE_kept v
          go_wp2_with fail
          refine wp_region_inv (by kernel_rfl) (by kernel_rfl) (Slots _ rcD (valS (rcV B v) (rbE v)) (fun _ wy => Kept noB wr wy)) (Slots.start (Kept.refl _ _).drew) ?_ ?_
          · intro f a' wz hI i o ho hfi hall
            have hi : i < 12 := (Array.getElem?_eq_some_iff.1 ho).1
            have hW := hI.world
            rcases (by omega : i = 0 ∨ i = 1 ∨ i = 2 ∨ i = 3 ∨ i = 4 ∨ i = 5 ∨ i = 6 ∨ i = 7 ∨ i = 8 ∨ i = 9 ∨ i = 10 ∨ i = 11) with rfl | rfl | rfl | rfl | rfl | rfl | rfl | rfl | rfl | rfl | rfl | rfl
            all_goals
              simp only [List.getElem?_toArray, List.getElem?_cons_zero, List.getElem?_cons_succ, Option.some.injEq] at ho
              subst ho
            · have e0 : a'.eval (.tmp 0) = .int .u8 (v : Int) := hI.old (by decide)
              refine wp_value (w' := wz) ?_ (VS.step hI (d := 67) (by kernel_rfl) (by decide) rfl (hW.no (Kept.refl _ _)) (Kept.refl _ _) hex)
              (unfold execOp; simp only [List.map_toArray, List.map_cons, List.map_nil, e0]; (try simp [go_sem, e0]); try omega)
            · have f0 : f 0 = true := hall ⟨0, .data⟩ (by simp) rfl
              have e67 : a'.eval (.tmp 67) = .int .u8 (v : Int) := hI.eval (k := 0) (d := 67) (by decide) f0
              refine wp_value (w' := wz.alloc (.cells #[.int .u8 (v : Int)] 5)) ?_ (VS.put hI (d := 68) (v := .slice (some ⟨wz.heap.size, 0, none⟩) 1 1) (by kernel_rfl) (by decide) (fun _ => ⟨_, rfl, Blk.new wz 5 [.int .u8 (v : Int)]⟩) (hW.no ((Kept.refl _ _).alloc _)) ((Kept.refl _ _).alloc _) hex)
              (unfold execOp; simp only [List.map_toArray, List.map_cons, List.map_nil, e67]; (try simp [go_sem, e67]); try omega)
            · have f1 : f 1 = true := hall ⟨1, .data⟩ (by simp) rfl
              have e68 := hI.eval (k := 1) (d := 68) (by decide) f1
              obtain ⟨g, e68, hb⟩ := e68
              have hrun := run_string1 wz g v (by omega) hb
              rw [← e68] at hrun
              exact wp_value (run_val hrun) (VS.step hI (d := 69) (by kernel_rfl) (by decide) rfl (hW.no (Kept.refl _ _)) (Kept.refl _ _) hex)
            · have f2 : f 2 = true := hall ⟨2, .data⟩ (by simp) rfl
              have e69 : a'.eval (.tmp 69) = .string (bs [UInt8.ofNat v]) := hI.eval (k := 2) (d := 69) (by decide) f2
              refine wp_value (w' := wz) ?_ (VS.step hI (d := 70) (by kernel_rfl) (by decide) rfl (hW.no (Kept.refl _ _)) (Kept.refl _ _) hex)
              (unfold execOp; simp only [List.map_toArray, List.map_cons, List.map_nil, e69, hm, bs_append, bs_size, sM]; (try simp [go_sem, e69, hm, bs_append, bs_size, sM]); try omega)
            · have e7 : a'.eval (.tmp 7) = .string (bs B) := hI.old (by decide)
              refine wp_value (w' := wz) ?_ (VS.step hI (d := 71) (by kernel_rfl) (by decide) rfl (hW.no (Kept.refl _ _)) (Kept.refl _ _) hex)
              (unfold execOp; simp only [List.map_toArray, List.map_cons, List.map_nil, e7]; (try simp [go_sem, e7]); try omega)
            · have f4 : f 4 = true := hall ⟨4, .data⟩ (by simp) rfl
              have e71 : a'.eval (.tmp 71) = .string (bs B) := hI.eval (k := 4) (d := 71) (by decide) f4
              have re71 := e71
              simp only [Act.eval, Array.getD_eq_getD_getElem?] at re71
              refine wp_value (w' := wz) ?_ (VS.step hI (d := 72) (by kernel_rfl) (by decide) rfl (hW.no (Kept.refl _ _)) (Kept.refl _ _) hex)
              (unfold execOp; simp only [List.map_toArray, List.map_cons, List.map_nil, e71, re71, bs_size]; (try simp [go_sem, e71, re71, bs_size]); try omega)
            · have f5 : f 5 = true := hall ⟨5, .data⟩ (by simp) rfl
              have e72 : a'.eval (.tmp 72) = .int .i64 (B.length : Int) := hI.eval (k := 5) (d := 72) (by decide) f5
              refine wp_value (w' := wz) ?_ (VS.step hI (d := 73) (by kernel_rfl) (by decide) rfl (hW.no (Kept.refl _ _)) (Kept.refl _ _) hex)
              (unfold execOp; simp only [List.map_toArray, List.map_cons, List.map_nil, e72, wb]; (try simp [go_sem, e72, wb]); try omega)
            · have f6 : f 6 = true := hall ⟨6, .data⟩ (by simp) rfl
              have e73 : a'.eval (.tmp 73) = .int .u64 (B.length : Int) := hI.eval (k := 6) (d := 73) (by decide) f6
              refine wp_go Try.func40 rfl rfl (args := #[.int .u64 (B.length : Int), .int .i64 4]) (by simp only [List.map_toArray, List.map_cons, List.map_nil, e73]; rfl) ((rbytes_calls (B.length : Int) 4 wz (by omega) (by omega)).mono ?_)
              rintro e w' ⟨rfl, hk⟩
              refine ⟨_, rfl, VS.step hI (d := 74) (by kernel_rfl) (by decide) (by rw [bV4]; rfl) (hW.no hk) hk hex⟩
            · have f3 : f 3 = true := hall ⟨3, .data⟩ (by simp) rfl
              have e70 : a'.eval (.tmp 70) = .string (bs (magicL ++ [UInt8.ofNat v])) := hI.eval (k := 3) (d := 70) (by decide) f3
              have f7 : f 7 = true := hall ⟨7, .data⟩ (by simp) rfl
              have e74 : a'.eval (.tmp 74) = .string (bs (beU B.length 4)) := hI.eval (k := 7) (d := 74) (by decide) f7
              refine wp_value (w' := wz) ?_ (VS.step hI (d := 75) (by kernel_rfl) (by decide) rfl (hW.no (Kept.refl _ _)) (Kept.refl _ _) hex)
              (unfold execOp; simp only [List.map_toArray, List.map_cons, List.map_nil, e70, e74, bs_append, bs_size, beU_length, lM]; (try simp [go_sem, e70, e74, bs_append, bs_size, beU_length, lM]); try omega)
            · have e7 : a'.eval (.tmp 7) = .string (bs B) := hI.old (by decide)
              refine wp_value (w' := wz) ?_ (VS.step hI (d := 76) (by kernel_rfl) (by decide) rfl (hW.no (Kept.refl _ _)) (Kept.refl _ _) hex)
              (unfold execOp; simp only [List.map_toArray, List.map_cons, List.map_nil, e7]; (try simp [go_sem, e7]); try omega)
            · have f8 : f 8 = true := hall ⟨8, .data⟩ (by simp) rfl
              have e75 : a'.eval (.tmp 75) = .string (bs (magicL ++ [UInt8.ofNat v] ++ beU B.length 4)) := hI.eval (k := 8) (d := 75) (by decide) f8
              have f9 : f 9 = true := hall ⟨9, .data⟩ (by simp) rfl
              have e76 : a'.eval (.tmp 76) = .string (bs B) := hI.eval (k := 9) (d := 76) (by decide) f9
              refine wp_value (w' := wz) ?_ (VS.step hI (d := 77) (by kernel_rfl) (by decide) rfl (hW.no (Kept.refl _ _)) (Kept.refl _ _) hex)
              (unfold execOp; simp only [List.map_toArray, List.map_cons, List.map_nil, e75, e76, bs_append, bs_size, beU_length, lM]; (try simp [go_sem, e75, e76, bs_append, bs_size, beU_length, lM]); try omega)
            · have f10 : f 10 = true := hall ⟨10, .data⟩ (by simp) rfl
              have e77 : a'.eval (.tmp 77) = .string (bs (magicL ++ [UInt8.ofNat v] ++ beU B.length 4 ++ B)) := hI.eval (k := 10) (d := 77) (by decide) f10
              refine wp_value (w' := wz) ?_ (VS.step hI (d := 9) (by kernel_rfl) (by decide) rfl (hW.no (Kept.refl _ _)) (Kept.refl _ _) hex)
              (unfold execOp; simp only [List.map_toArray, List.map_cons, List.map_nil, e77]; (try simp [go_sem, e77]); try omega)
          · intro f a' wz hf hI
            have e9 : a'.tmps.getD 9 undef = .string (bs (magicL ++ [UInt8.ofNat v] ++ beU B.length 4 ++ B)) := hI.slot (11, 9) (by decide) (hf 11 (by decide))
            have k5 := kz.no hI.world
            have ho := hI.out
            clear hI hf
            simp only [rcD, List.foldl_cons, List.foldl_nil] at ho
            generalize a'.tmps.getD 67 undef = y67 at *
            generalize a'.tmps.getD 68 undef = y68 at *
            generalize a'.tmps.getD 69 undef = y69 at *
            generalize a'.tmps.getD 70 undef = y70 at *
            generalize a'.tmps.getD 71 undef = y71 at *
            generalize a'.tmps.getD 72 undef = y72 at *
            generalize a'.tmps.getD 73 undef = y73 at *
            generalize a'.tmps.getD 74 undef = y74 at *
            generalize a'.tmps.getD 75 undef = y75 at *
            generalize a'.tmps.getD 76 undef = y76 at *
            generalize a'.tmps.getD 77 undef = y77 at *
            rw [e9] at ho
            subst ho
            simp only [List.setIfInBounds_toArray, List.set_cons_zero, List.set_cons_succ]
            have hL : (magicL ++ [UInt8.ofNat v] ++ beU B.length 4 ++ B).length = 9 + B.length := by rw [List.length_append, List.length_append, beU_length]; rfl
            have hI := HI.out
            clear HI
            generalize magicL ++ [UInt8.ofNat v] ++ beU B.length 4 ++ B = P3 at *
            have z3 : (bs P3).size = 9 + B.length := by rw [bs_size, hL]
            have a3 : (bs (sumL P3)).size = 4 := by rw [bs_size]; rfl
            have a4 : ¬ 9223372036854775807 < 9 + B.length + 4 := by omega
            go_wp2_with fail
            refine (rtsum_calls P3 wz (by omega)).mono ?_
            rintro e w7 ⟨rfl, k7⟩
            have k8 := k5.no k7
            go_wp2_with fail
            go_ret2
            refine ⟨?_, k8⟩
            show Ending.returned (.tuple #[.string (bs P3 ++ bs (sumL P3)), .int .i64 0]) = _
            rw [HE0.out HR.out, HL0.out HR.out, hI, bs_append]
            rfl
theorem rbuild_calls (v : Nat) (l : List Sec) (A : Option Addr) (cap : Nat) (w : World) (h : SecAt w A l) (hn : l.length ≤ maxLen) (hs : (encSecs l).length ≤ 1000000) :
    Calls Try.prog 26 #[.int .u8 v, .slice A l.length cap] w fun e w' => e = .returned (.tuple #[.string (bs (buildL v l)), .int .i64 (buildE v l : Nat)]) ∧ Kept noB w w' := by
  cases hv : goodV v with
  | false => exact rbuild_kind v l A cap w hv
  | true => exact rbuild_on v l A cap w hv h hn hs
end Go.Proofs.Ytclnginkplhlhaa

