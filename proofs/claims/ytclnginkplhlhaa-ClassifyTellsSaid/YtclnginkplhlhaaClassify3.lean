/- The law's own first lines: a port, a VLAN. No condition. -/
import Derived.Test.YtclnginkplhlhaaClassify2
namespace Go.Proofs.Ytclnginkplhlhaa
open Go.RowKit Go.Maps
theorem isMap_nil : IsMap (.map [] : DataW Unit) := isMap_empty
theorem isKey_u16 (k : Int) (_h0 : 0 ≤ k) (_h1 : k < 65536) : WideAt.IsKeyLit (.int .u16 k) := by
  first | trivial | exact ⟨_, _, rfl⟩ | simp [WideAt.IsKeyLit]
theorem getN_put (D : DataW Unit) (h : IsMap D) (k m : Int) (h0 : 0 ≤ k) (h1 : k < 65536) : getN (D.put (.int .u16 k) (vlanD k m 0)) k = (k, m, 0) := by
  rw [getN, atKey_put_same h (isKey_u16 k h0 h1), vlanN_mk]
theorem getB_put (D : DataW Unit) (h : IsMap D) (k m : Int) (h0 : 0 ≤ k) (h1 : k < 65536) : getB (D.put (.int .u16 k) (vlanD k m 0)) k = true := has_put_same h (isKey_u16 k h0 h1) _
theorem set_nil (k : Int) (h0 : 1 ≤ k) (h1 : k ≤ 4094) : setE (.map []) k = 0 := by
  have e : vE k = 0 := by rw [vE, if_neg (by omega)]
  rw [setE, if_neg (by simp [e]), if_neg (by rw [size_eq]; simp)]
theorem setD_nil (k m : Int) (h0 : 1 ≤ k) (h1 : k ≤ 4094) : setD (.map []) k m = (DataW.map []).put (.int .u16 k) (vlanD k m 0) := by
  rw [setD, set_nil k h0 h1, if_neg (by simp)]
theorem of_one : ofN [1] 1 = 1 := by decide
set_option maxRecDepth 100000 in
theorem speaks11 (w : World) : Calls Try.prog 10 #[] w fun e w' => e = .returned (.bool true) ∧ Kept noB w w' := by
  go_enter Try.func10, Try.ntmps10
  go_wp2_with fail
  refine (new_calls (Kept.refl noB w)).mono ?_
  rintro e w1 ⟨g, rfl, T⟩
  go_wp2_with fail
  have q := of_calls [1] 1 1 (some ⟨w1.heap.size, 0, none⟩) (w1.alloc (.cells #[.int .i64 1] 3)) (by unfold maxLen; omega) (.inr ⟨_, _, rfl, fun i hi => by
    obtain rfl : i = 0 := by omega
    simp⟩)
  rw [of_one] at q
  refine q.mono ?_
  rintro e w2 ⟨rfl, rfl⟩
  clear q
  have T2 := T.kept ((Kept.refl _ _).alloc (.cells #[.int .i64 1] 3))
  clear T
  go_wp2_with fail
  refine (set_calls T2 7 1 (by omega) (by omega) (by omega) (by omega)).mono ?_
  rintro e w3 ⟨rfl, T3, _⟩
  rw [setD_nil 7 _ (by omega) (by omega)] at T3
  have hN := getN_put (.map []) isMap_nil 7 1 (by omega) (by omega)
  have hB := getB_put (.map []) isMap_nil 7 1 (by omega) (by omega)
  clear T2
  have T4 := T3.kept ((Kept.refl _ _).alloc (.cells #[.int .u16 7, .int .i64 0, .bool true] 30))
  clear T3
  have q1 := fun (w5 : World) (T5 : Tbl w w5 g 1 ((DataW.map []).put (.int .u16 7) (vlanD 7 1 0))) (num : Int) => ingress_tbl T5 7 0 true num Fr.zero (by omega) (by omega) (by decide)
  have eV : ingV 7 Fr.zero.tg Fr.zero.vid = 7 := rfl
  have eO : ownB Fr.zero.tg Fr.zero.vid = false := rfl
  have eM : memN ((DataW.map []).put (.int .u16 7) (vlanD 7 1 0)) 7 = 1 := by rw [memN, hN]; rfl
  rw [eV, eO, eM, hB] at q1
  clear hN hB eV eO eM
  have Q1 := Lib.hid q1
  have BP := Blk.new w3 30 [.int .u16 7, .int .i64 0, .bool true]
  have HP := Lib.hid BP
  have HT := Lib.hid T4
  clear q1 T4 BP
  have qg := fun w => pgood_calls 7 0 true w
  go_wp2_with fail
  refine (Q1.out _ HT.out 1).mono ?_
  rintro e w5 ⟨rfl, hk5⟩
  rw [show ingC 1 true 0 true 1 false = 0 by decide, show ingA 0 7 = 7 from rfl]
  have T5 := HT.out.kept hk5
  have B5 := HP.out.kept hk5 (fun e => e)
  have p0 : w5.cell? ⟨w3.heap.size, 0, none⟩ = some (.int .u16 7) := B5.cell 0
  have p1 : w5.cell? ⟨w3.heap.size, 1, none⟩ = some (.int .i64 0) := B5.cell 1
  have p2 : w5.cell? ⟨w3.heap.size, 2, none⟩ = some (.bool true) := B5.cell 2
  have HT5 := Lib.hid T5
  have HP5 := Lib.hid B5
  clear HT HP hk5 T5 B5
  go_wp2_with fail
  refine (Q1.out _ HT5.out 2).mono ?_
  rintro e w6 ⟨rfl, hk6⟩
  rw [show ingC 1 true 0 true 2 false = 3 by decide, show ingA 3 7 = 0 from rfl]
  have T6 := HT5.out.kept hk6
  have B6 := HP5.out.kept hk6 (fun e => e)
  have q0 : w6.cell? ⟨w3.heap.size, 0, none⟩ = some (.int .u16 7) := B6.cell 0
  have q1 : w6.cell? ⟨w3.heap.size, 1, none⟩ = some (.int .i64 0) := B6.cell 1
  have q2 : w6.cell? ⟨w3.heap.size, 2, none⟩ = some (.bool true) := B6.cell 2
  have K6 := T6.here
  clear HT5 HP5 hk6 T6 B6 p0 p1 p2
  go_wp2_with fail
  refine (qg _).mono ?_
  rintro e w7 ⟨rfl, hk7⟩
  rw [show pGood 7 0 = true by decide]
  have K7 := K6.no hk7
  clear K6 hk7 qg Q1
  go_wp2_with fail
  go_ret
  exact ⟨rfl, K7⟩
end Go.Proofs.Ytclnginkplhlhaa
