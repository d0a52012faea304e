/- The walks of package vlan: a VLAN is set. Conditions: the numbers are of their kinds, the set is one of ports, none is untagged. -/
import Derived.Test.YtclnginkplhlhaaVlan2
namespace Go.Proofs.Ytclnginkplhlhaa
open Go.RowKit Go.Maps
theorem pure_calls (s : Int) (w : World) : Calls Try.prog 54 #[.int .u32 s] w fun e w' => e = .returned (.bool (decide (s < 65536))) ∧ w = w' := by
  go_enter Try.func54, Try.ntmps54
  go_wp2_with fail
  go_ret
  exact ⟨rfl, rfl⟩
def vE (a : Int) : Int := if a < 1 ∨ 4094 < a then 15 else 0
theorem inP_zero (m : Nat) : inP 0 m = true := by simp [inP]
set_option maxRecDepth 100000 in
theorem vgood_calls (a : Int) (m : Nat) (w : World) (hm : m < 65536) : Calls Try.prog 34 #[vlanV a m 0] w fun e w' => e = .returned (.int .i64 (vE a)) ∧ Kept noB w w' := by
  have q1 := fun w => pure_calls (m : Int) w
  have q2 := fun w => pure_calls 0 w
  have q3 := fun w => within_calls 0 m w (by omega) (by omega)
  rw [show decide ((m : Int) < 65536) = true by simp; omega] at q1
  rw [show decide ((0 : Int) < 65536) = true by decide] at q2
  rw [inP_zero, show ((0 : Nat) : Int) = 0 from rfl] at q3
  unfold vlanV
  by_cases h1 : a < 1
  · rw [vE, if_pos (.inl h1)]
    clear q1 q2 q3
    go_enter Try.func34, Try.ntmps34
    go_wp2_with fail
    go_ret
    exact ⟨rfl, (Kept.refl _ _).alloc _⟩
  by_cases h2 : 4094 < a
  · rw [vE, if_pos (.inr h2)]
    clear q1 q2 q3
    go_enter Try.func34, Try.ntmps34
    go_wp2_with fail
    go_ret
    exact ⟨rfl, (Kept.refl _ _).alloc _⟩
  · rw [vE, if_neg (by omega)]
    go_enter Try.func34, Try.ntmps34
    go_wp2_with fail
    refine (q1 _).mono ?_
    rintro e w1 ⟨rfl, rfl⟩
    go_wp2_with fail
    refine (q2 _).mono ?_
    rintro e w1 ⟨rfl, rfl⟩
    go_wp2_with fail
    refine (q3 _).mono ?_
    rintro e w1 ⟨rfl, rfl⟩
    go_wp2_with fail
    go_ret
    exact ⟨rfl, (Kept.refl _ _).alloc _⟩
/-- every row that was there is as it was -/
def BlkKept (w w' : World) : Prop := ∀ z T cs, Blk w z T cs → Blk w' z T cs
theorem BlkKept.trans {a b c : World} (h : BlkKept a b) (k : BlkKept b c) : BlkKept a c := fun z T cs hb => k z T cs (h z T cs hb)
theorem Kept.blks {w w' : World} (h : Kept noB w w') : BlkKept w w' := fun _ _ _ hb => hb.kept h (fun e => e)
theorem blks_map {w w' : World} {b n : Nat} {D : DataW Unit} (hown : w.ownsMap Try.prog 22 vlanR b n D) (hg : w.grownBy w' (some b)) : BlkKept w w' := fun z T cs hb => by
  have hne : z ≠ b := by
    intro e
    obtain ⟨es, clock, hm, _⟩ := hown
    rw [← e] at hm
    unfold Blk at hb
    rw [hb] at hm
    cases hm
  exact (hg.block z hb.lt (by intro e; injection e with e; exact hne e)).trans hb
def setE (D : DataW Unit) (a : Int) : Int := if vE a ≠ 0 then vE a else if getB D a = false ∧ 16 ≤ Maps.size D then 13 else 0
def setD (D : DataW Unit) (a m : Int) : DataW Unit := if setE D a ≠ 0 then D else D.put (.int .u16 a) (vlanD a m 0)
theorem Tbl.more {w0 w : World} {g n m : Nat} {D : DataW Unit} (h : Tbl w0 w g n D) (hm : n ≤ m) : Tbl w0 w g m D := by
  obtain ⟨b, h1, h2, h3⟩ := h
  exact ⟨b, h1, h2.mono hm, h3⟩
set_option maxRecDepth 100000 in
set_option maxHeartbeats 1000000 in
theorem set_calls {w0 w : World} {g n : Nat} {D : DataW Unit} (h : Tbl w0 w g n D) (a : Int) (m : Nat) (h0 : 0 ≤ a) (h1 : a < 65536) (hm : m < 65536) (hn : n ≤ 1000) :
    Calls Try.prog 12 #[.pointer (some ⟨g, 0, none⟩), vlanV a m 0] w fun e w' => e = .returned (.int .i64 (setE D a)) ∧ Tbl w0 w' g (n + 1) (setD D a m) ∧ BlkKept w w' := by
  have q := fun w => vgood_calls a m w hm
  unfold vlanV at q ⊢
  by_cases hv : vE a = 0
  · rw [hv] at q
    have b0 := Blk.new w 37 [.int .u16 a, .int .u32 m, .int .u32 0]
    have T := h.kept ((Kept.refl _ _).alloc (.cells #[.int .u16 a, .int .u32 m, .int .u32 0] 37))
    have hlt : g < w.heap.size := h.choose_spec.1.lt
    have HT := Lib.hid T
    have HB := Lib.hid b0
    clear T h b0
    go_enter Try.func12, Try.ntmps12
    go_wp2_with fail
    refine (q _).mono ?_
    rintro e w1 ⟨rfl, hk⟩
    have T := HT.out.kept hk
    have B := HB.out.kept hk (fun e => e)
    have KW := Lib.hid (((Kept.refl noB w).alloc (.cells #[.int .u16 a, .int .u32 m, .int .u32 0] 37)).no hk)
    clear HT HB hk q
    have c0 : w1.cell? ⟨w.heap.size, 0, none⟩ = some (.int .u16 a) := B.cell 0
    have HT := Lib.hid T
    obtain ⟨b, hb, hown, hg0, hb0, hne, hk⟩ := T
    have cg : w1.cell? ⟨g, 0, none⟩ = some (.map (some b)) := hb.cell 0
    have c0a : (w1.alloc (.cells #[.int .u16 0, .int .u32 0, .int .u32 0] 37)).cell? ⟨w.heap.size, 0, none⟩ = some (.int .u16 a) := (B.alloc _).cell 0
    have cga : (w1.alloc (.cells #[.int .u16 0, .int .u32 0, .int .u32 0] 37)).cell? ⟨g, 0, none⟩ = some (.map (some b)) := (hb.alloc _).cell 0
    have l1 := (run_lookup_vlan hown.drew h0 h1).1
    have l2 := (run_lookup_vlan (hown.drew.alloc (.cells #[.int .u16 0, .int .u32 0, .int .u32 0] 37)) h0 h1).1
    have l3 := (run_lookup_vlan (hown.alloc (.cells #[.int .u16 0, .int .u32 0, .int .u32 0] 37)).drew h0 h1).1
    generalize (getN D a).1 = x at *
    generalize (getN D a).2.1 = y at *
    generalize (getN D a).2.2 = z at *
    unfold vlanV at l1 l2 l3
    generalize hok : getB D a = ok at *
    have HOK := Lib.hid hok
    have HO := Lib.hid hown
    have HBG := Lib.hid hb
    have HBV := Lib.hid B
    clear hown hb B hk hok
    go_wp2_with fail
    go_region
    all_goals
      have T6 := (HT.out.kept ((Kept.refl noB w1).alloc (.cells #[.int .u16 x, .int .u32 y, .int .u32 z] 37))).kept ((Kept.refl noB _).drew)
      have HO6 := (HO.out.alloc (.cells #[.int .u16 x, .int .u32 y, .int .u32 z] 37)).drew
      have HBG6 := (HBG.out.alloc (.cells #[.int .u16 x, .int .u32 y, .int .u32 z] 37)).drew
      have HBV6 := (HBV.out.alloc (.cells #[.int .u16 x, .int .u32 y, .int .u32 z] 37)).drew
      have K6 := HT.out.here
      have KW7 := (KW.out.alloc (.cells #[.int .u16 x, .int .u32 y, .int .u32 z] 37)).drew
      have K7 := (K6.alloc (.cells #[.int .u16 x, .int .u32 y, .int .u32 z] 37)).drew
      clear HT HO HBG HBV K6 l1 l2 l3 c0 c0a cg cga
      generalize (w1.alloc (.cells #[.int .u16 x, .int .u32 y, .int .u32 z] 37)).drew = W at *
      have c0 : W.cell? ⟨w.heap.size, 0, none⟩ = some (.int .u16 a) := HBV6.cell 0
      have c1 : W.cell? ⟨w.heap.size, 1, none⟩ = some (.int .u32 m) := HBV6.cell 1
      have c2 : W.cell? ⟨w.heap.size, 2, none⟩ = some (.int .u32 0) := HBV6.cell 2
      have cg : W.cell? ⟨g, 0, none⟩ = some (.map (some b)) := HBG6.cell 0
      have hlen := fun ty => HO6.len Try.underlying88 ty
      have hsz := HO6.size_le
      have hkey : keyOf Try.prog 22 (.int .u16 a) = some (.int .u16 a) := keyOf_int_mk Try.underlying22 (wf_u16 h0 h1)
      obtain ⟨w9, hupd, hown9, hg9⟩ := HO6.drew.update keyV Try.underlying88 (by unfold maxLen; omega) hkey (vlanR_mk (a := a) (b := (m : Int)) (c := 0) ⟨h0, h1, by omega, by omega, by omega, by omega⟩)
      have T9 : Tbl w0 w9 g (n + 1) (D.put (.int .u16 a) (vlanD a m 0)) := ⟨b, (hg9.block g (show g < W.heap.size from HBG6.lt) (by intro e; injection e with e; exact hne e)).trans HBG6, hown9, hg0, hb0, hne, K7.drew.grown hg9 (fun k e hk => by injection e with e; omega)⟩
      have H9 := Lib.hid T9
      have BK := Lib.hid KW7.blks
      have BK9 := Lib.hid (KW7.drew.blks.trans (blks_map HO6.drew hg9))
      have T6' := Lib.hid (T6.more (Nat.le_succ n))
      unfold vlanV at hupd
      clear HO6 HBG6 HBV6 K7 T6 hown9 hg9 T9 hkey KW KW7
      cases ok
      · generalize hsd : Maps.size D = sz at *
        have HSD := Lib.hid hsd
        clear hsd
        by_cases h16 : 16 ≤ sz
        · have h16' : (16 : Int) ≤ (sz : Int) := by omega
          have e1 : setE D a = 13 := by rw [setE, if_neg (by simp [hv]), if_pos ⟨HOK.out, by rw [HSD.out]; exact h16⟩]
          have e2 : setD D a m = D := by rw [setD, e1, if_pos (by decide)]
          have E1 := Lib.hid e1
          have E2 := Lib.hid e2
          clear e1 e2 H9 hupd h16
          go_wp2_with fail
          go_ret
          exact ⟨by rw [E1.out]; rfl, by rw [E2.out]; exact T6'.out, BK.out⟩
        · have h16' : decide ((16 : Int) ≤ (sz : Int)) = false := by simp; omega
          have h17 : (sz : Int) < 16 := by omega
          have e1 : setE D a = 0 := by rw [setE, if_neg (by simp [hv]), if_neg (by rw [HSD.out]; omega)]
          have e2 : setD D a m = D.put (.int .u16 a) (vlanD a m 0) := by rw [setD, e1, if_neg (by decide)]
          have E1 := Lib.hid e1
          have E2 := Lib.hid e2
          clear e1 e2 T6' h16
          go_wp2_with fail
          go_region
          all_goals
            go_wp2_with fail
            go_ret
            exact ⟨by rw [E1.out]; rfl, by rw [E2.out]; exact H9.out, BK9.out⟩
      · have e1 : setE D a = 0 := by rw [setE, if_neg (by simp [hv]), if_neg (by rw [HOK.out]; simp)]
        have e2 : setD D a m = D.put (.int .u16 a) (vlanD a m 0) := by rw [setD, e1, if_neg (by decide)]
        have E1 := Lib.hid e1
        have E2 := Lib.hid e2
        clear e1 e2 T6'
        go_wp2_with fail
        go_region
        all_goals
          go_wp2_with fail
          go_ret
          exact ⟨by rw [E1.out]; rfl, by rw [E2.out]; exact H9.out, BK9.out⟩
  · have e1 : setE D a = vE a := by rw [setE, if_pos hv]
    have e2 : setD D a m = D := by rw [setD, e1, if_pos hv]
    have e3 : vE a = 15 := by unfold vE at hv ⊢; split at hv <;> simp_all
    rw [e1, e2]
    rw [e3] at q ⊢
    clear e1 e2 e3 hv
    have T := (h.kept ((Kept.refl _ _).alloc (.cells #[.int .u16 a, .int .u32 m, .int .u32 0] 37))).more (Nat.le_succ n)
    have HT := Lib.hid T
    clear T h
    go_enter Try.func12, Try.ntmps12
    go_wp2_with fail
    refine (q _).mono ?_
    rintro e w1 ⟨rfl, hk⟩
    have T := HT.out.kept hk
    have BK := Lib.hid (((Kept.refl noB w).alloc (.cells #[.int .u16 a, .int .u32 m, .int .u32 0] 37)).no hk).blks
    clear HT hk
    go_wp2_with fail
    go_ret
    exact ⟨rfl, T, BK.out⟩
end Go.Proofs.Ytclnginkplhlhaa
