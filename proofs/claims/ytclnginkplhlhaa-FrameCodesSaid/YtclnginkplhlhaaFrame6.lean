/- The walk of girderref04.Encode, a frame that may be. Condition: 'Fr.ok'. -/
import Derived.Test.YtclnginkplhlhaaFrame5
namespace Go.Proofs.Ytclnginkplhlhaa
open Go.RowKit
theorem sixSize : (Try.prog.info? 43).map (·.size) = some 6 := by kernel_rfl
theorem rangeA {w : World} {g : Nat} {T : TypeId} {x : Fr} (bb : Blk w g T (frC x)) : w.rangeAt g 0 (vb (frA x)) := fun j v hv => by
  rw [bb.cell]
  have hj : j < 6 := (List.getElem?_eq_some_iff.1 hv).1
  rw [← hv]
  rcases (show j = 0 ∨ j = 1 ∨ j = 2 ∨ j = 3 ∨ j = 4 ∨ j = 5 by omega) with rfl | rfl | rfl | rfl | rfl | rfl <;> rfl
theorem rangeB {w : World} {g : Nat} {T : TypeId} {x : Fr} (bb : Blk w g T (frC x)) : w.rangeAt g 6 (vb (frB x)) := fun j v hv => by
  rw [bb.cell]
  have hj : j < 6 := (List.getElem?_eq_some_iff.1 hv).1
  rw [← hv]
  rcases (show j = 0 ∨ j = 1 ∨ j = 2 ∨ j = 3 ∨ j = 4 ∨ j = 5 by omega) with rfl | rfl | rfl | rfl | rfl | rfl <;> rfl
set_option maxRecDepth 100000 in
set_option maxHeartbeats 2000000 in
theorem rencode_good (x : Fr) (w : World) (hx : x.ok) (hg : x.good = true) : Calls Try.prog 20 #[frV x] w fun e w' => e = .returned (.tuple #[.string (bs (encL x)), .int .i64 (encE x : Nat)]) ∧ Kept noB w w' := by
  have bb : Blk (w.alloc (.cells (frC x).toArray 56)) w.heap.size 56 (frC x) := heap_alloc_new w _
  have k1 : Kept noB w (w.alloc (.cells (frC x).toArray 56)) := (Kept.refl _ _).alloc _
  have BB := Lib.hid bb
  have K1 := Lib.hid k1
  clear bb k1
  have c12 : (frC x).toArray[12]? = some (.bool x.tg) := rfl
  have c13 : (frC x).toArray[13]? = some (.int .u8 x.pcp) := rfl
  have c14 : (frC x).toArray[14]? = some (.bool x.dei) := rfl
  have c15 : (frC x).toArray[15]? = some (.int .u16 x.vid) := rfl
  have c16 : (frC x).toArray[16]? = some (.int .u16 x.ty) := rfl
  have hx2 := hx.1
  have hx3 := hx.2.1
  have hx4 := hx.2.2.1
  have HG := Lib.hid hg
  unfold Fr.good at hg
  unfold frV
  have HX := Lib.hid hx
  clear hx
  generalize hcs : (frC x).toArray = cs at *
  have h6 : (vb (frA x)).length = 6 := rfl
  have h6' : (vb (frB x)).length = 6 := rfl
  have sA : (Try.prog.info? 43).map (·.size) = some (vb (frA x)).length := sixSize
  have sB : (Try.prog.info? 43).map (·.size) = some (vb (frB x)).length := sixSize
  have rA : ∀ w', (∃ p : Regrown, w' = Sort.grow (redrawn (w.alloc (.cells cs 56)) p.d) p.os) → w'.rangeAt w.heap.size 0 (vb (frA x)) := by
    rintro _ ⟨p, rfl⟩
    exact rangeA (BB.out.kept (Kept.regrown _ p.d p.os) (fun e => e))
  have rB : ∀ w', (∃ p : Regrown, w' = Sort.grow (redrawn (w.alloc (.cells cs 56)) p.d) p.os) → w'.rangeAt w.heap.size 6 (vb (frB x)) := by
    rintro _ ⟨p, rfl⟩
    exact rangeB (BB.out.kept (Kept.regrown _ p.d p.os) (fun e => e))
  have q1 := Calls.qkept (w := w.alloc (.cells cs 56)) (fun w1 _ => text_calls (frA x) w1 rfl)
  have q2 := Calls.qkept (w := w.alloc (.cells cs 56)) (fun w1 _ => text_calls (frB x) w1 rfl)
  have lab : ¬ 9223372036854775807 < (bs (frA x)).size + (bs (frB x)).size := by rw [bs_size, bs_size, show (frA x).length = 6 from rfl, show (frB x).length = 6 from rfl]; decide
  have hil : x.info < 18446744073709551616 := by
    unfold Fr.info
    split <;> omega
  have q4 := fun w => rbytes_calls (x.info : Int) 2 w (by omega) (by omega)
  have q5 := fun w => rbytes_calls (x.ty : Int) 2 w (by omega) (by omega)
  have hp2 : bytesV (x.info : Int) 2 = beU x.info 2 := by rw [bytesV, if_pos (by omega)]; rfl
  have hte : bytesV (x.ty : Int) 2 = beU x.ty 2 := by rw [bytesV, if_pos (by omega)]; rfl
  rw [hp2] at q4
  rw [hte] at q5
  have hi2 : (beU x.info 2).length = 2 := beU_length _ _
  have ht2 : (beU x.ty 2).length = 2 := beU_length _ _
  have hty : IntKind.u64.wrap (x.ty : Int) = (x.ty : Int) := by rw [IntKind.wrap_u64]; omega
  have hA : (frA x).length = 6 := rfl
  have hB : (frB x).length = 6 := rfl
  have hdl : x.data.length ≤ 140737488351232 := HX.out.2.2.2
  have hH : frH x = frA x ++ frB x ++ (if x.tg then [129, 0] ++ beU x.info 2 else []) ++ beU x.ty 2 := rfl
  have hE : encE x = if 1518 < (frH x).length + x.data.length then 3 else 0 := by rw [encE, HG.out]; rfl
  have hL : encL x = if 1518 < (frH x).length + x.data.length then [] else frH x ++ x.data := by
    rw [encL, hE]
    split <;> simp
  have hI : (x.info : Int) = 8192 * (x.pcp : Int) + (x.vid : Int) + (if x.dei then 4096 else 0) := by unfold Fr.info; split <;> simp
  have HH := Lib.hid hH
  have HE := Lib.hid hE
  have HL := Lib.hid hL
  have HI := Lib.hid hI
  clear hH hE hL hI hp2 hte
  generalize hal : frA x = al at *
  generalize hbl : frB x = bl at *
  go_enter Try.func20, Try.ntmps20
  cases ht : x.tg <;> cases hd : x.dei
  all_goals
    rw [ht] at hg c12
    rw [hd] at c14
    simp [hd] at hg
  all_goals
    try (obtain ⟨g1, g2⟩ := hg)
    try (obtain ⟨g1, g3⟩ := g1)
    go_wp2_with fail
    refine wp_region_quiet_below (by kernel_rfl) (by kernel_rfl) ?_
    repeat (first | (first | refine wpQuiet_load_mid rfl _ _ rfl _ _ rfl _ _ rA Try.underlying43 rfl sA ?_ | refine wpQuiet_load_mid rfl _ _ rfl _ _ rfl _ _ rB Try.underlying43 rfl sB ?_) | quiet_step (first | with_reducible exact q1 _ _ | with_reducible exact q2 _ _))
    refine wpQuiet_nil ?_
    intro _ hw'
    obtain ⟨⟨dq, osq⟩, hw''⟩ := hw'
    subst hw''
    have kR := Kept.regrown (w.alloc (.cells cs 56)) dq osq
    have k2 := K1.out.no kR
    have b5 := BB.out.kept kR (fun e => e)
    clear rA rB q1 q2 c12 c13 c14 c15 c16
    generalize Sort.grow (redrawn (w.alloc (.cells cs 56)) dq) osq = w5 at *
    have c12 := b5.cell 12
    have c13 := b5.cell 13
    have c14 := b5.cell 14
    have c15 := b5.cell 15
    have c16 := b5.cell 16
    have c17 := b5.cell 17
    simp only [frC, List.getElem?_cons_zero, List.getElem?_cons_succ] at c12 c13 c14 c15 c16 c17
    rw [ht] at c12
    rw [hd] at c14
    have hH := HH.out
    have hI := HI.out
    rw [ht] at hH
    rw [hd] at hI
    clear HH HI
    generalize beU x.ty 2 = t2 at *
    have sS : (bs al ++ bs bl).size = 12 := by rw [bs_append, bs_size, List.length_append, hA, hB]
    have sT : (bs t2).size = 2 := by rw [bs_size]; exact ht2
    have sD : (bs x.data).size = x.data.length := bs_size _
    go_wp2_with fail
  · have q6 := Calls.qkept (w := w5) (fun w1 _ => q5 w1)
    have ka := cell_regrown c16
    have kb := cell_regrown c17
    have a1 : ¬ 9223372036854775807 < (bs t2).size + (bs x.data).size := by omega
    have s1 : (bs t2 ++ bs x.data).size = 2 + x.data.length := by rw [bs_append, bs_size, List.length_append, ht2]
    have a2 : ¬ 9223372036854775807 < (bs al ++ bs bl).size + (bs t2 ++ bs x.data).size := by omega
    have s2 : (bs al ++ bs bl ++ (bs t2 ++ bs x.data)).size = 14 + x.data.length := by rw [bs_append, bs_append, bs_append, bs_size]; simp [hA, hB, ht2]; omega
    have a3 : ¬ 9223372036854775807 < 2 + x.data.length := by omega
    have a4 : ¬ 9223372036854775807 < 12 + (2 + x.data.length) := by omega
    refine wp_region_quiet_below (by kernel_rfl) (by kernel_rfl) ?_
    repeat (quiet_step (with_reducible exact q6 _ _))
    refine wpQuiet_nil ?_
    intro _ hw'
    obtain ⟨⟨dq, osq⟩, hw''⟩ := hw'
    subst hw''
    have k3 := k2.no (Kept.regrown w5 dq osq)
    clear ka kb q6
    generalize Sort.grow (redrawn w5 dq) osq = w6 at *
    have hHl : (frH x).length = 14 := by rw [hH]; simp [hA, hB, ht2]
    have HH := Lib.hid hH
    clear hH
    by_cases hl : 1518 < 14 + x.data.length
    · go_wp2_with fail
      go_ret2
      refine ⟨?_, k3⟩
      rw [HE.out, HL.out, hHl, if_pos hl, if_pos hl]
      rfl
    · go_wp2_with fail
      go_ret2
      refine ⟨?_, k3⟩
      rw [HE.out, HL.out, hHl, if_neg hl, if_neg hl, HH.out, show bs (al ++ bl ++ (if false = true then [129, 0] ++ beU x.info 2 else []) ++ t2 ++ x.data) = bs al ++ bs bl ++ (bs t2 ++ bs x.data) by rw [bs_append, bs_append, bs_append]; simp]
      rfl
  · have e0 : (8192 * (x.pcp : Int) + (x.vid : Int)) = (x.info : Int) := by simp at hI; omega
    rw [e0]
    refine (q4 _).mono ?_
    rintro e w6 ⟨rfl, hk6⟩
    replace k2 := k2.no hk6
    replace c16 := hk6.cell c16 (fun e => e)
    replace c17 := hk6.cell c17 (fun e => e)
    clear e0 hI
    generalize beU x.info 2 = ib at *
    have sI : (bs ib).size = 2 := by rw [bs_size]; exact hi2
    have q6 := Calls.qkept (w := w6) (fun w1 _ => q5 w1)
    have ka := cell_regrown c16
    have kb := cell_regrown c17
    have s0 : (bs [129, 0] ++ bs ib).size = 4 := by rw [bs_append, bs_size, List.length_append, hi2]; rfl
    have s00 : (bs al ++ bs bl ++ (bs [129, 0] ++ bs ib)).size = 16 := by rw [bs_append, bs_append, bs_append, bs_size]; simp [hA, hB, hi2]
    have s1 : (bs t2 ++ bs x.data).size = 2 + x.data.length := by rw [bs_append, bs_size, List.length_append, ht2]
    have s2 : (bs al ++ bs bl ++ (bs [129, 0] ++ bs ib) ++ (bs t2 ++ bs x.data)).size = 18 + x.data.length := by rw [bs_append, bs_append, bs_append, bs_append, bs_append, bs_size]; simp [hA, hB, ht2, hi2]; omega
    have a3 : ¬ 9223372036854775807 < 2 + x.data.length := by omega
    have a4 : ¬ 9223372036854775807 < 16 + (2 + x.data.length) := by omega
    have hHl : (frH x).length = 18 := by rw [hH]; simp [hA, hB, ht2, hi2]
    have HH := Lib.hid hH
    clear hH
    rw [show bs [129, 0] = { data := #[129, 0] } from rfl] at s0 s00 s2
    go_wp2_with fail
    refine wp_region_quiet_below (by kernel_rfl) (by kernel_rfl) ?_
    repeat (quiet_step (with_reducible exact q6 _ _))
    refine wpQuiet_nil ?_
    intro _ hw'
    obtain ⟨⟨dq, osq⟩, hw''⟩ := hw'
    subst hw''
    have k3 := k2.no (Kept.regrown w6 dq osq)
    clear ka kb q6
    generalize Sort.grow (redrawn w6 dq) osq = w7 at *
    by_cases hl : 1518 < 18 + x.data.length
    · go_wp2_with fail
      go_ret2
      refine ⟨?_, k3⟩
      rw [HE.out, HL.out, hHl, if_pos hl, if_pos hl]
      rfl
    · go_wp2_with fail
      go_ret2
      refine ⟨?_, k3⟩
      rw [HE.out, HL.out, hHl, if_neg hl, if_neg hl, HH.out, show bs (al ++ bl ++ (if True then [129, 0] ++ ib else []) ++ t2 ++ x.data) = bs al ++ bs bl ++ (bs [129, 0] ++ bs ib) ++ (bs t2 ++ bs x.data) by rw [bs_append, bs_append, bs_append, bs_append, bs_append]; simp]
      rfl
  · have e0 : (8192 * (x.pcp : Int) + (x.vid : Int) + 4096) = (x.info : Int) := by simp at hI; omega
    rw [e0]
    refine (q4 _).mono ?_
    rintro e w6 ⟨rfl, hk6⟩
    replace k2 := k2.no hk6
    replace c16 := hk6.cell c16 (fun e => e)
    replace c17 := hk6.cell c17 (fun e => e)
    clear e0 hI
    generalize beU x.info 2 = ib at *
    have sI : (bs ib).size = 2 := by rw [bs_size]; exact hi2
    have q6 := Calls.qkept (w := w6) (fun w1 _ => q5 w1)
    have ka := cell_regrown c16
    have kb := cell_regrown c17
    have s0 : (bs [129, 0] ++ bs ib).size = 4 := by rw [bs_append, bs_size, List.length_append, hi2]; rfl
    have s00 : (bs al ++ bs bl ++ (bs [129, 0] ++ bs ib)).size = 16 := by rw [bs_append, bs_append, bs_append, bs_size]; simp [hA, hB, hi2]
    have s1 : (bs t2 ++ bs x.data).size = 2 + x.data.length := by rw [bs_append, bs_size, List.length_append, ht2]
    have s2 : (bs al ++ bs bl ++ (bs [129, 0] ++ bs ib) ++ (bs t2 ++ bs x.data)).size = 18 + x.data.length := by rw [bs_append, bs_append, bs_append, bs_append, bs_append, bs_size]; simp [hA, hB, ht2, hi2]; omega
    have a3 : ¬ 9223372036854775807 < 2 + x.data.length := by omega
    have a4 : ¬ 9223372036854775807 < 16 + (2 + x.data.length) := by omega
    have hHl : (frH x).length = 18 := by rw [hH]; simp [hA, hB, ht2, hi2]
    have HH := Lib.hid hH
    clear hH
    rw [show bs [129, 0] = { data := #[129, 0] } from rfl] at s0 s00 s2
    go_wp2_with fail
    refine wp_region_quiet_below (by kernel_rfl) (by kernel_rfl) ?_
    repeat (quiet_step (with_reducible exact q6 _ _))
    refine wpQuiet_nil ?_
    intro _ hw'
    obtain ⟨⟨dq, osq⟩, hw''⟩ := hw'
    subst hw''
    have k3 := k2.no (Kept.regrown w6 dq osq)
    clear ka kb q6
    generalize Sort.grow (redrawn w6 dq) osq = w7 at *
    by_cases hl : 1518 < 18 + x.data.length
    · go_wp2_with fail
      go_ret2
      refine ⟨?_, k3⟩
      rw [HE.out, HL.out, hHl, if_pos hl, if_pos hl]
      rfl
    · go_wp2_with fail
      go_ret2
      refine ⟨?_, k3⟩
      rw [HE.out, HL.out, hHl, if_neg hl, if_neg hl, HH.out, show bs (al ++ bl ++ (if True then [129, 0] ++ ib else []) ++ t2 ++ x.data) = bs al ++ bs bl ++ (bs [129, 0] ++ bs ib) ++ (bs t2 ++ bs x.data) by rw [bs_append, bs_append, bs_append, bs_append, bs_append]; simp]
      rfl
theorem rencode_calls (x : Fr) (w : World) (hx : x.ok) : Calls Try.prog 20 #[frV x] w fun e w' => e = .returned (.tuple #[.string (bs (encL x)), .int .i64 (encE x : Nat)]) ∧ Kept noB w w' := by
  cases hg : x.good
  · have e1 : encE x = 16 := by rw [encE, hg]; rfl
    have e2 : encL x = [] := by rw [encL, e1]; rfl
    rw [e1, e2]
    exact rencode_bad x w hx hg
  · exact rencode_good x w hx hg
end Go.Proofs.Ytclnginkplhlhaa
