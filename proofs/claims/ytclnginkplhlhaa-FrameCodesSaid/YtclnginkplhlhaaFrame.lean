/- The walks of package frame. Condition: 'Fr.ok'. -/
import Derived.Test.YtclnginkplhlhaaWire2
import Derived.Test.YtclnginkplhlhaaPlainFrame2
namespace Go.Proofs.Ytclnginkplhlhaa
open Go.RowKit

/-- a frame's cells -/
def frC (x : Fr) : List Value := [.int .u8 x.a0.toNat, .int .u8 x.a1.toNat, .int .u8 x.a2.toNat, .int .u8 x.a3.toNat, .int .u8 x.a4.toNat, .int .u8 x.a5.toNat,
  .int .u8 x.b0.toNat, .int .u8 x.b1.toNat, .int .u8 x.b2.toNat, .int .u8 x.b3.toNat, .int .u8 x.b4.toNat, .int .u8 x.b5.toNat, .bool x.tg, .int .u8 x.pcp, .bool x.dei, .int .u16 x.vid, .int .u16 x.ty, .string (bs x.data)]
def frV (x : Fr) : Value := .agg (frC x).toArray

set_option maxRecDepth 100000 in
theorem good_calls (x : Fr) (w : World) (hx : x.ok) : Calls Try.prog 36 #[frV x] w fun e w' => e = .returned (.bool x.good) ∧ Kept noB w w' := by
  obtain ⟨a0, a1, a2, a3, a4, a5, b0, b1, b2, b3, b4, b5, tg, pcp, dei, vid, ty, data⟩ := x
  obtain ⟨h1, h2, h3, h4⟩ := hx
  simp only at h1 h2 h3 h4
  simp only [frV, frC, Fr.good]
  cases tg <;> cases dei
  all_goals
    go_enter Try.func36, Try.ntmps36
    go_wp2_with fail
    all_goals
      go_ret
      refine ⟨?_, (Kept.refl _ _).alloc _⟩
      show Ending.returned (Value.bool _) = _
      congr 2 <;> (rw [Bool.eq_iff_iff]; simp; try omega)
theorem with13 : ((List.range 4096).all fun v => (List.range 8).all fun p => withN v 13 3 p == 8192 * p + v) = true := by decide +kernel
theorem with12 : ((List.range 4096).all fun v => (List.range 8).all fun p => withN (8192 * p + v) 12 1 1 == 8192 * p + v + 4096) = true := by decide +kernel
theorem with13_eq (v p : Nat) (hv : v < 4096) (hp : p < 8) : withN v 13 3 p = 8192 * p + v := by
  have h := List.all_eq_true.1 (List.all_eq_true.1 with13 v (List.mem_range.2 hv)) p (List.mem_range.2 hp)
  exact eq_of_beq h
theorem with12_eq (v p : Nat) (hv : v < 4096) (hp : p < 8) : withN (8192 * p + v) 12 1 1 = 8192 * p + v + 4096 := by
  have h := List.all_eq_true.1 (List.all_eq_true.1 with12 v (List.mem_range.2 hv)) p (List.mem_range.2 hp)
  exact eq_of_beq h
set_option maxRecDepth 100000 in
theorem info_calls (x : Fr) (w : World) (hp : x.pcp ≤ 7) (hv : x.vid ≤ 4094) : Calls Try.prog 38 #[frV x] w fun e w' => e = .returned (.int .u64 (x.info : Int)) ∧ Kept noB w w' := by
  obtain ⟨a0, a1, a2, a3, a4, a5, b0, b1, b2, b3, b4, b5, tg, pcp, dei, vid, ty, data⟩ := x
  simp only at hp hv
  have e1 : withV (vid : Int) 13 3 (pcp : Int) = ((8192 * pcp + vid : Nat) : Int) := by
    rw [withV, if_pos (by decide), Int.toNat_natCast, Int.toNat_natCast, show (13 : Int).toNat = 13 from rfl, show (3 : Int).toNat = 3 from rfl, with13_eq vid pcp (by omega) (by omega)]
  have e2 : withV ((8192 * pcp + vid : Nat) : Int) 12 1 1 = ((8192 * pcp + vid + 4096 : Nat) : Int) := by
    rw [withV, if_pos (by decide), Int.toNat_natCast, show (12 : Int).toNat = 12 from rfl, show (1 : Int).toNat = 1 from rfl, with12_eq vid pcp (by omega) (by omega)]
  simp only [frV, frC, Fr.info]
  have c1 := fun w => with_calls (vid : Int) 13 3 (pcp : Int) w (by omega) (by omega) (by omega) (by omega)
  have c2 := fun w => with_calls ((8192 * pcp + vid : Nat) : Int) 12 1 1 w (by omega) (by omega) (by omega) (by omega)
  rw [e1] at c1
  rw [e2] at c2
  clear e1 e2
  have hn : 8192 * pcp + vid < 65536 := by omega
  generalize 8192 * pcp + vid = n at *
  cases dei
  all_goals
    go_enter Try.func38, Try.ntmps38
    go_wp2_with fail
    refine (c1 _).mono ?_
    rintro e w1 ⟨rfl, d, rfl⟩
    go_wp2_with fail
  · go_ret
    exact ⟨rfl, ((Kept.refl _ _).alloc _).drewN d⟩
  · refine (c2 _).mono ?_
    rintro e w1 ⟨rfl, d2, rfl⟩
    go_wp2_with fail
    go_ret
    exact ⟨rfl, ((Kept.refl _ _).alloc _).drewN _⟩
end Go.Proofs.Ytclnginkplhlhaa
