/- The walk of frame.Encode. Condition: 'Fr.ok'. -/
import Derived.Test.YtclnginkplhlhaaFrame
import Derived.Test.YtclnginkplhlhaaQuietRow
namespace Go.Proofs.Ytclnginkplhlhaa
open Go.RowKit
theorem frSize : (Try.prog.info? 46).map (·.size) = some 18 := by kernel_rfl
theorem encode_bad (x : Fr) (w : World) (hx : x.ok) (hg : x.good = false) : Calls Try.prog 18 #[frV x] w fun e w' => e = .returned (.tuple #[.string (bs []), .int .i64 16]) ∧ Kept noB w w' := by
  have c1 := fun w => good_calls x w hx
  rw [hg] at c1
  clear hg hx
  have hs : (Try.prog.info? 46).map (·.size) = some (frC x).toArray.size := frSize
  have b1 : (w.alloc (.cells (frC x).toArray 46)).heap[w.heap.size]? = some (.cells (frC x).toArray 46 (0, 0)) := heap_alloc_new w _
  unfold frV at *
  generalize (frC x).toArray = cs at *
  go_enter Try.func18, Try.ntmps18
  go_wp2_with (first | refine wpList_load_row rfl _ _ rfl _ rfl _ _ _ _ b1 Try.underlying46 rfl hs ?_)
  refine (c1 _).mono ?_
  rintro e w1 ⟨rfl, hk⟩
  go_wp2_with fail
  go_ret2
  exact ⟨rfl, ((Kept.refl _ _).alloc _).no hk⟩
theorem run_string_at (w : World) (g o : Nat) (l : List UInt8) (c : Nat) (h : ∀ i, (hi : i < l.length) → w.cell? ⟨g, o + i, none⟩ = some (.int .u8 (l[i].toNat))) :
    (convert 79 9 (.slice (some ⟨g, o, none⟩) l.length c)).run Try.prog w = .ok (.string (bs l)) w := by
  have := run_convert_bytes_arg (P := Try.prog) w 79 5 Try.underlying79 Try.underlying5 g o l.length c (l.map fun b => (b.toNat : Int)) (by simp) (fun i hi => by
    rw [h i hi]
    simp [hi]) 9 Try.underlying9
  rw [this, strOf_vb]
theorem run_frA {w : World} {g : Nat} {x : Fr} (bb : Blk w g 46 (frC x)) : (convert 79 9 (.slice (some ⟨g, 0, none⟩) 6 6)).run Try.prog w = .ok (.string (bs (frA x))) w :=
  run_string_at w g 0 (frA x) 6 (fun i hi => by
    have hi' : i < 6 := hi
    rw [bb.cell]
    rcases (show i = 0 ∨ i = 1 ∨ i = 2 ∨ i = 3 ∨ i = 4 ∨ i = 5 by omega) with rfl | rfl | rfl | rfl | rfl | rfl <;> rfl)
theorem run_frB {w : World} {g : Nat} {x : Fr} (bb : Blk w g 46 (frC x)) : (convert 79 9 (.slice (some ⟨g, 6, none⟩) 6 6)).run Try.prog w = .ok (.string (bs (frB x))) w :=
  run_string_at w g 6 (frB x) 6 (fun i hi => by
    have hi' : i < 6 := hi
    rw [bb.cell]
    rcases (show i = 0 ∨ i = 1 ∨ i = 2 ∨ i = 3 ∨ i = 4 ∨ i = 5 by omega) with rfl | rfl | rfl | rfl | rfl | rfl <;> rfl)
set_option maxRecDepth 100000 in
theorem encode_good (x : Fr) (w : World) (hx : x.ok) (hg : x.good = true) : Calls Try.prog 18 #[frV x] w fun e w' => e = .returned (.tuple #[.string (bs (encL x)), .int .i64 (encE x : Nat)]) ∧ Kept noB w w' := by
  have c1 := fun w => good_calls x w hx
  rw [hg] at c1
  have hs : (Try.prog.info? 46).map (·.size) = some (frC x).toArray.size := frSize
  have b1 : (w.alloc (.cells (frC x).toArray 46)).heap[w.heap.size]? = some (.cells (frC x).toArray 46 (0, 0)) := heap_alloc_new w _
  have k1 : Kept noB w (w.alloc (.cells (frC x).toArray 46)) := (Kept.refl _ _).alloc _
  have bb : Blk (w.alloc (.cells (frC x).toArray 46)) w.heap.size 46 (frC x) := b1
  unfold frV at *
  go_enter Try.func18, Try.ntmps18
  generalize hcs : (frC x).toArray = cs at *
  go_wp2_with (first | refine wpList_load_row rfl _ _ rfl _ rfl _ _ _ _ b1 Try.underlying46 rfl hs ?_)
  refine (c1 _).mono ?_
  rintro e w1 ⟨rfl, hk⟩
  replace k1 := k1.no hk
  replace bb := bb.kept hk (fun e => e)
  clear b1
  have ra := fun n => run_frA (w := w1.drewN n) (x := x) bb
  have rb := fun n => run_frB (w := w1.drewN n) (x := x) bb
  have la : (bs (frA x)).size = 6 := bs_size _
  have lb : (bs (frB x)).size = 6 := bs_size _
  have lab : ¬ 9223372036854775807 < (bs (frA x)).size + (bs (frB x)).size := by omega
  have cA := bb.cell 0
  have cB := bb.cell 6
  simp only [frC, List.getElem?_cons_zero, List.getElem?_cons_succ] at cA cB
  have hA : (frA x).length = 6 := rfl
  have hB : (frB x).length = 6 := rfl
  generalize hal : frA x = al at *
  generalize hbl : frB x = bl at *
  go_wp2_with fail
  go_quiet (fail)
  have c12 := bb.cell 12
  have c16 := bb.cell 16
  have c17 := bb.cell 17
  simp only [frC, List.getElem?_cons_zero, List.getElem?_cons_succ] at c12 c16 c17
  have b2 : (w1.drewN nq).heap[w.heap.size]? = some (.cells cs 46 (0, 0)) := by rw [← hcs]; exact bb
  have k2 : Kept noB w (w1.drewN nq) := k1.drewN nq
  have q4 := fun w => bytes_calls (x.ty : Int) 2 w (by omega)
  have hty : IntKind.u64.wrap (x.ty : Int) = (x.ty : Int) := by have := hx.2.2.1; rw [IntKind.wrap_u64]; omega
  have ht2 : (bytesV (x.ty : Int) 2).length = 2 := by rw [bytesV, if_pos (by omega), beU_length]; rfl
  have hte : bytesV (x.ty : Int) 2 = beU x.ty 2 := by rw [bytesV, if_pos (by omega)]; rfl
  have hde := hx.2.2.2
  have HX := Lib.hid hx
  have hgd := Lib.hid hg
  clear hx hg
  have sT : (bs (bytesV (x.ty : Int) 2)).size = 2 := by rw [bs_size]; exact ht2
  have sD : (bs x.data).size = x.data.length := bs_size _
  cases ht : x.tg
  · rw [ht] at c12
    have hH : frH x = al ++ bl ++ bytesV (x.ty : Int) 2 := by rw [frH, ht, ← hal, ← hbl, hte]; simp
    have hE : encE x = if 1518 < 14 + x.data.length then 3 else 0 := by
      rw [encE, hgd.out, hH]
      simp only [Bool.not_true, Bool.false_eq_true, if_false, List.length_append, ht2, hA, hB]
    have hL : encL x = if 1518 < 14 + x.data.length then [] else al ++ bl ++ bytesV (x.ty : Int) 2 ++ x.data := by
      rw [encL, hE, hH]
      split <;> simp
    clear hte hH
    have HE := Lib.hid hE
    have HL := Lib.hid hL
    clear hE hL
    generalize bytesV (x.ty : Int) 2 = t2 at *
    generalize x.data = dl at *
    have sS : (bs al ++ bs bl).size = 12 := by rw [bs_append, bs_size, List.length_append, hA, hB]
    have a1 : ¬ 9223372036854775807 < (bs al ++ bs bl).size + (bs t2).size := by omega
    go_wp2_with fail
    refine (q4 _).mono ?_
    rintro e w2 ⟨rfl, hk2⟩
    replace k2 := k2.no hk2
    have d17 := hk2.cell (w := w1.drewN nq) c17 (fun e => e)
    have s14 : (bs al ++ bs bl ++ bs t2).size = 14 := by rw [bs_append, bs_append, bs_size, List.length_append, List.length_append, hA, hB, ht2]
    by_cases hl : 1518 < 14 + dl.length
    · go_wp2_with fail
      go_ret2
      refine ⟨?_, k2⟩
      rw [HE.out, HL.out, if_pos hl, if_pos hl]
      rfl
    · have a2 : ¬ 9223372036854775807 < (bs al ++ bs bl ++ bs t2).size + (bs dl).size := by omega
      go_wp2_with fail
      go_ret2
      refine ⟨?_, k2⟩
      rw [HE.out, HL.out, if_neg hl, if_neg hl, ← bs_append, ← bs_append, ← bs_append]
      rfl
  · rw [ht] at c12
    have hgg := hgd.out
    have hpv : x.pcp ≤ 7 ∧ x.vid ≤ 4094 := by simpa [Fr.good, ht] using hgg
    have hp1 : bytesV 33024 2 = [129, 0] := by rw [bytesV, if_pos (by omega)]; decide
    have hp2 : bytesV (x.info : Int) 2 = beU x.info 2 := by rw [bytesV, if_pos (by omega)]; rfl
    have hH : frH x = al ++ bl ++ ([129, 0] ++ beU x.info 2) ++ bytesV (x.ty : Int) 2 := by rw [frH, ht, ← hal, ← hbl, hte, if_pos rfl]
    have hi2 : (beU x.info 2).length = 2 := beU_length _ _
    have hE : encE x = if 1518 < 18 + x.data.length then 3 else 0 := by
      rw [encE, hgd.out, hH]
      simp only [Bool.not_true, Bool.false_eq_true, if_false, List.length_append, ht2, hA, hB, hi2, List.length_cons, List.length_nil]
    have hL : encL x = if 1518 < 18 + x.data.length then [] else al ++ bl ++ ([129, 0] ++ beU x.info 2) ++ bytesV (x.ty : Int) 2 ++ x.data := by
      rw [encL, hE, hH]
      split <;> simp
    have q1 := Calls.qkept (w := w1.drewN nq) (fun w1 _ => bytes_calls 33024 2 w1 (by omega))
    have q2 := Calls.qkept (w := w1.drewN nq) (fun w1 _ => info_calls x w1 hpv.1 hpv.2)
    have q3 := Calls.qkept (w := w1.drewN nq) (fun w1 _ => bytes_calls (x.info : Int) 2 w1 (by omega))
    have hrow : ∀ w', (∃ p : Regrown, w' = Sort.grow (redrawn (w1.drewN nq) p.d) p.os) → w'.heap[w.heap.size]? = some (.cells cs 46 (0, 0)) := by
      rintro _ ⟨p, rfl⟩
      exact ((Kept.regrown (w1.drewN nq) p.d p.os).block w.heap.size (Array.getElem?_eq_some_iff.1 b2).1 (fun e => e)).trans b2
    unfold frV at q2
    rw [hcs] at q2
    rw [hp1] at q1
    rw [hp2] at q3
    clear hte hH hp1 hp2 hgg hpv
    have HE := Lib.hid hE
    have HL := Lib.hid hL
    clear hE hL
    generalize bytesV (x.ty : Int) 2 = t2 at *
    generalize beU x.info 2 = ib at *
    generalize hpb : ([129, 0] : List UInt8) = pb at *
    have hpl : pb.length = 2 := by rw [← hpb]; rfl
    clear hpb
    generalize x.info = inf at *
    generalize x.data = dl at *
    have sP : (bs pb).size = 2 := by rw [bs_size]; exact hpl
    have sI : (bs ib).size = 2 := by rw [bs_size]; exact hi2
    have sS : (bs al ++ bs bl).size = 12 := by rw [bs_append, bs_size, List.length_append, hA, hB]
    have sQ : (bs pb ++ bs ib).size = 4 := by rw [bs_append, bs_size, List.length_append, hpl, hi2]
    have sR : (bs al ++ bs bl ++ (bs pb ++ bs ib)).size = 16 := by rw [bs_append, bs_append, bs_append, bs_size]; simp [hA, hB, hpl, hi2]
    have a0 : ¬ 9223372036854775807 < (bs pb).size + (bs ib).size := by omega
    have a01 : ¬ 9223372036854775807 < (bs al ++ bs bl).size + (bs pb ++ bs ib).size := by omega
    have a1 : ¬ 9223372036854775807 < (bs al ++ bs bl ++ (bs pb ++ bs ib)).size + (bs t2).size := by omega
    go_wp2_with fail
    refine wp_region_quiet_below (by kernel_rfl) (by kernel_rfl) ?_
    repeat (first | (refine wpQuiet_load_row rfl _ _ rfl _ rfl _ cs _ _ hrow Try.underlying46 rfl hs ?_) | quiet_step (first | with_reducible exact q1 _ _ | with_reducible exact q2 _ _ | with_reducible exact q3 _ _))
    refine wpQuiet_nil ?_
    intro _ hw'
    obtain ⟨⟨dq, osq⟩, hw''⟩ := hw'
    subst hw''
    have kR := Kept.regrown (w1.drewN nq) dq osq
    replace k2 := k2.no kR
    have e16 := kR.cell c16 (fun e => e)
    have e17 := kR.cell c17 (fun e => e)
    clear q1 q2 q3 hrow
    generalize Sort.grow (redrawn (w1.drewN nq) dq) osq = w5 at *
    go_wp2_with fail
    refine (q4 _).mono ?_
    rintro e w2 ⟨rfl, hk2⟩
    replace k2 := k2.no hk2
    have d17 := hk2.cell e17 (fun e => e)
    have s18 : (bs al ++ bs bl ++ (bs pb ++ bs ib) ++ bs t2).size = 18 := by rw [bs_append, bs_append, bs_append, bs_append, bs_size]; simp [hA, hB, hpl, hi2, ht2]
    by_cases hl : 1518 < 18 + dl.length
    · go_wp2_with fail
      go_ret2
      refine ⟨?_, k2⟩
      rw [HE.out, HL.out, if_pos hl, if_pos hl]
      rfl
    · have a2 : ¬ 9223372036854775807 < (bs al ++ bs bl ++ (bs pb ++ bs ib) ++ bs t2).size + (bs dl).size := by omega
      go_wp2_with fail
      go_ret2
      refine ⟨?_, k2⟩
      rw [HE.out, HL.out, if_neg hl, if_neg hl, ← bs_append, ← bs_append, ← bs_append, ← bs_append, ← bs_append]
      rfl
theorem encode_calls (x : Fr) (w : World) (hx : x.ok) : Calls Try.prog 18 #[frV x] w fun e w' => e = .returned (.tuple #[.string (bs (encL x)), .int .i64 (encE x : Nat)]) ∧ Kept noB w w' := by
  cases hg : x.good
  · have e1 : encE x = 16 := by rw [encE, hg]; rfl
    have e2 : encL x = [] := by rw [encL, e1]; rfl
    rw [e1, e2]
    exact encode_bad x w hx hg
  · exact encode_good x w hx hg
end Go.Proofs.Ytclnginkplhlhaa
