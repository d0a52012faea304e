/- FrameCodes: any frame's bytes, or why it has none; and back. No condition. -/
import Derived.Test.YtclnginkplhlhaaRows
import Derived.Test.YtclnginkplhlhaaRowKt
import Derived.Test.YtclnginkplhlhaaFrame14
namespace Go.Proofs.Ytclnginkplhlhaa
namespace lawFrameCodes
open Go.ChangeShapes Go.WideShapes Go.ChangeAt Go.RowKit
section
variable {H : Type} {enc : TypeId × Value → H} {W : World} {base : Nat} {sp : Nat → Bool} {held : Bool}
theorem byte_of {n : Nat} {c : Value} {y : DataW H × List MemPlace} (h : DataW.trod enc Try.prog W base sp held n 5 [c] = some y) : ∃ b : UInt8, c = .int .u8 b.toNat := by
  obtain ⟨m, hc, _, hw⟩ := DataW.trod_int Try.underlying5 h
  have hb := bounds_u8 hw
  refine ⟨UInt8.ofNat m.toNat, ?_⟩
  simp only [List.cons.injEq, and_true] at hc
  rw [hc, UInt8.toNat_ofNat', show m.toNat % 2 ^ 8 = m.toNat by omega, Int.toNat_of_nonneg hb.1]
theorem c43 : Try.prog.cellsOf 43 = 6 := by kernel_rfl
theorem c5 : Try.prog.cellsOf 5 = 1 := by kernel_rfl
theorem c4 : Try.prog.cellsOf 4 = 1 := by kernel_rfl
theorem c22 : Try.prog.cellsOf 22 = 1 := by kernel_rfl
theorem c9 : Try.prog.cellsOf 9 = 1 := by kernel_rfl
theorem c50 : Try.prog.cellsOf 50 = 18 := by kernel_rfl
theorem six_of {n : Nat} {c0 c1 c2 c3 c4 c5' : Value} {y : DataW H × List MemPlace} (h : DataW.trod enc Try.prog W base sp held n 43 [c0, c1, c2, c3, c4, c5'] = some y) :
    ∃ a0 a1 a2 a3 a4 a5 : UInt8, c0 = .int .u8 a0.toNat ∧ c1 = .int .u8 a1.toNat ∧ c2 = .int .u8 a2.toNat ∧ c3 = .int .u8 a3.toNat ∧ c4 = .int .u8 a4.toNat ∧ c5' = .int .u8 a5.toNat := by
  obtain ⟨xs, m, _, _, _, hl, hg⟩ := DataW.trod_array Try.underlying43 h
  have key : ∀ i, i < 6 → ∃ y, xs[i]? = some y := fun i hi => ⟨_, List.getElem?_eq_getElem (by omega)⟩
  rw [c5] at hg
  have g0 := hg 0 (by omega)
  have g1 := hg 1 (by omega)
  have g2 := hg 2 (by omega)
  have g3 := hg 3 (by omega)
  have g4 := hg 4 (by omega)
  have g5 := hg 5 (by omega)
  obtain ⟨y0, e0⟩ := key 0 (by omega)
  obtain ⟨y1, e1⟩ := key 1 (by omega)
  obtain ⟨y2, e2⟩ := key 2 (by omega)
  obtain ⟨y3, e3⟩ := key 3 (by omega)
  obtain ⟨y4, e4⟩ := key 4 (by omega)
  obtain ⟨y5, e5⟩ := key 5 (by omega)
  rw [e0] at g0
  rw [e1] at g1
  rw [e2] at g2
  rw [e3] at g3
  rw [e4] at g4
  rw [e5] at g5
  obtain ⟨b0, h0⟩ := byte_of g0
  obtain ⟨b1, h1⟩ := byte_of g1
  obtain ⟨b2, h2⟩ := byte_of g2
  obtain ⟨b3, h3⟩ := byte_of g3
  obtain ⟨b4, h4⟩ := byte_of g4
  obtain ⟨b5, h5⟩ := byte_of g5
  exact ⟨b0, b1, b2, b3, b4, b5, h0, h1, h2, h3, h4, h5⟩
set_option maxRecDepth 100000 in
theorem frame_in {v : Value} {d : DataW H} {p : List MemPlace} {r : Reach} {b0 : Nat} (hv : Value.okWide Try.prog W r b0 50 v) (h : DataW.Trod enc Try.prog W base sp held 50 v d p) :
    ∃ x : Fr, v = frV x ∧ x.pcp < 256 ∧ x.vid < 65536 ∧ x.ty < 65536 ∧ (x.data.length : Int) ≤ 9223372036854775807 := by
  obtain ⟨cs, rfl, hsz⟩ := okWide_struct Try.underlying50 hv
  obtain ⟨l⟩ := cs
  match l, hsz.trans c50 with
  | [a0, a1, a2, a3, a4, a5, b0, b1, b2, b3, b4, b5, tg, pcp, dei, vid, ty, data], _ =>
    obtain ⟨fuel, hf⟩ := h
    obtain ⟨xs, n, _, hx, _, hlen, hg⟩ := DataW.trod_struct Try.underlying50 hf
    have key : ∀ i, i < 8 → ∃ y, xs[i]? = some y := fun i hi => ⟨_, List.getElem?_eq_getElem (by rw [hlen]; exact hi)⟩
    have g0 : DataW.trod enc Try.prog W base sp held n 43 ((([a0, a1, a2, a3, a4, a5, b0, b1, b2, b3, b4, b5, tg, pcp, dei, vid, ty, data] : List Value).drop 0).take (Try.prog.cellsOf 43)) = xs[0]? := hg 0 _ rfl
    have g1 : DataW.trod enc Try.prog W base sp held n 43 ((([a0, a1, a2, a3, a4, a5, b0, b1, b2, b3, b4, b5, tg, pcp, dei, vid, ty, data] : List Value).drop 6).take (Try.prog.cellsOf 43)) = xs[1]? := hg 1 _ rfl
    have g2 : DataW.trod enc Try.prog W base sp held n 4 ((([a0, a1, a2, a3, a4, a5, b0, b1, b2, b3, b4, b5, tg, pcp, dei, vid, ty, data] : List Value).drop 12).take (Try.prog.cellsOf 4)) = xs[2]? := hg 2 _ rfl
    have g3 : DataW.trod enc Try.prog W base sp held n 5 ((([a0, a1, a2, a3, a4, a5, b0, b1, b2, b3, b4, b5, tg, pcp, dei, vid, ty, data] : List Value).drop 13).take (Try.prog.cellsOf 5)) = xs[3]? := hg 3 _ rfl
    have g4 : DataW.trod enc Try.prog W base sp held n 4 ((([a0, a1, a2, a3, a4, a5, b0, b1, b2, b3, b4, b5, tg, pcp, dei, vid, ty, data] : List Value).drop 14).take (Try.prog.cellsOf 4)) = xs[4]? := hg 4 _ rfl
    have g5 : DataW.trod enc Try.prog W base sp held n 22 ((([a0, a1, a2, a3, a4, a5, b0, b1, b2, b3, b4, b5, tg, pcp, dei, vid, ty, data] : List Value).drop 15).take (Try.prog.cellsOf 22)) = xs[5]? := hg 5 _ rfl
    have g6 : DataW.trod enc Try.prog W base sp held n 22 ((([a0, a1, a2, a3, a4, a5, b0, b1, b2, b3, b4, b5, tg, pcp, dei, vid, ty, data] : List Value).drop 16).take (Try.prog.cellsOf 22)) = xs[6]? := hg 6 _ rfl
    have g7 : DataW.trod enc Try.prog W base sp held n 9 ((([a0, a1, a2, a3, a4, a5, b0, b1, b2, b3, b4, b5, tg, pcp, dei, vid, ty, data] : List Value).drop 17).take (Try.prog.cellsOf 9)) = xs[7]? := hg 7 _ rfl
    obtain ⟨y0, e0⟩ := key 0 (by omega)
    obtain ⟨y1, e1⟩ := key 1 (by omega)
    obtain ⟨y2, e2⟩ := key 2 (by omega)
    obtain ⟨y3, e3⟩ := key 3 (by omega)
    obtain ⟨y4, e4⟩ := key 4 (by omega)
    obtain ⟨y5, e5⟩ := key 5 (by omega)
    obtain ⟨y6, e6⟩ := key 6 (by omega)
    obtain ⟨y7, e7⟩ := key 7 (by omega)
    rw [e0, c43] at g0
    rw [e1, c43] at g1
    rw [e2, c4] at g2
    rw [e3, c5] at g3
    rw [e4, c4] at g4
    rw [e5, c22] at g5
    rw [e6, c22] at g6
    rw [e7, c9] at g7
    obtain ⟨x0, x1, x2, x3, x4, x5, rfl, rfl, rfl, rfl, rfl, rfl⟩ := six_of g0
    obtain ⟨z0, z1, z2, z3, z4, z5, rfl, rfl, rfl, rfl, rfl, rfl⟩ := six_of g1
    obtain ⟨t, ht, _⟩ := DataW.trod_bool Try.underlying4 g2
    obtain ⟨pc, hp, _, wp⟩ := DataW.trod_int Try.underlying5 g3
    obtain ⟨de, hd, _⟩ := DataW.trod_bool Try.underlying4 g4
    obtain ⟨vi, hvi, _, wv⟩ := DataW.trod_int Try.underlying22 g5
    obtain ⟨tp, htp, _, wt⟩ := DataW.trod_int Try.underlying22 g6
    obtain ⟨s, hs, _, ws⟩ := DataW.trod_string Try.underlying9 g7
    have bp := bounds_u8 wp
    have bv := bounds_u16 wv
    have bt := bounds_u16 wt
    have e1 : tg = .bool t := (List.cons.inj ht).1
    have e2 : pcp = .int .u8 pc := (List.cons.inj hp).1
    have e3 : dei = .bool de := (List.cons.inj hd).1
    have e4 : vid = .int .u16 vi := (List.cons.inj hvi).1
    have e5 : ty = .int .u16 tp := (List.cons.inj htp).1
    have e6 : data = .string s := (List.cons.inj hs).1
    refine ⟨⟨x0, x1, x2, x3, x4, x5, z0, z1, z2, z3, z4, z5, t, pc.toNat, de, vi.toNat, tp.toNat, s.data.toList⟩, ?_, by simp only; omega, by simp only; omega, by simp only; omega, ?_⟩
    · rw [e1, e2, e3, e4, e5, e6]
      simp only [frV, frC, Int.toNat_of_nonneg bp.1, Int.toNat_of_nonneg bv.1, Int.toNat_of_nonneg bt.1, bs_data]
    · have : s.size = s.data.toList.length := by rw [← bs_size, bs_data]
      unfold maxLen at ws
      simp only
      omega
end
set_option maxRecDepth 100000 in
theorem walk {H : Type} {enc : TypeId × Value → H} {W : World} {base : Nat} (v : Value) {d : DataW H} {p : List MemPlace} (hv : Value.okWide Try.prog W .any base 50 v) (h : DataW.Trod enc Try.prog W 0 (fun _ => true) true 50 v d p) :
    Calls Try.prog 5 #[v] W fun e W' => e = .returned (.bool true) ∧ Below W.heap.size W W' := by
  obtain ⟨x, rfl, h1, h2, h3, h4⟩ := frame_in hv h
  exact (frameCodes_walk x W h1 h2 h3 h4).mono fun e w' ⟨x, y⟩ => ⟨x, y.below⟩
end lawFrameCodes
namespace lawFrameCodes
open Go.ChangeShapes Go.WideShapes Go.ChangeAt Go.RowKit
open Go.ChangeMaps (open_string shut_string)
theorem own : ownKnob Try.prog.godebug = none := by kernel_rfl
theorem laidOut : laidOutB Try.prog = true := by kernel_rfl
set_option linter.unusedVariables false
set_option maxRecDepth 100000 in
theorem lifted (os : Os) (started : os.Started) (H : Type) (enc : TypeId × Value → H) :
    ReturnsInHanded {} Try.checked os 5 .any (Rows.frameCodesSpec.pre6 enc Try.prog Try.f5 Rows.frameCodesRow.domain false) (Rows.frameCodesSpec.post enc Try.prog Try.f5 false true false false) := by
  refine returnsInHanded_of_change (C := Try.checked) own started (by kernel_rfl) Try.func5
    (ChangeSpec.witness6 (enc := enc) (C := Try.checked) false ⟨#[], #[.agg #[.int .u8 0, .int .u8 0, .int .u8 0, .int .u8 0, .int .u8 0, .int .u8 0, .int .u8 0, .int .u8 0, .int .u8 0, .int .u8 0, .int .u8 0, .int .u8 0, .bool false, .int .u8 0, .bool false, .int .u16 0, .int .u16 0, .string ⟨#[]⟩]], []⟩ 12 (by kernel_rfl) (by kernel_rfl) (by kernel_rfl) (by kernel_rfl)) ?_
  intro W base args ds gs before hval0 hW hcnd _
  have hval : ∀ (j : Nat) t v, Try.f5.params[j]? = some t → args[j]? = some v → Value.okWide Try.prog W .any base t v := hval0
  have hW' := hW
  obtain ⟨p, q, hA0, hV, rfl, hfz, hnd⟩ := hW
  have hA : DataW.TrodAll enc Try.prog W 0 (fun _ => true) true Try.f5.params.toList args.toList ds p := hA0
  rw [Try.params5] at hA hval
  obtain ⟨v0, vs0, d0, ds0, p0, q0, hargs, rfl, rfl, h0, r0⟩ := trodAll_cons hA
  obtain ⟨rfl, rfl, rfl⟩ := trodAll_nil r0
  obtain rfl : args = #[v0] := by cases args; simp_all
  obtain ⟨rfl, rfl⟩ := trodVars_none hV
  have k0 := h0
  have lt0 : ∀ x ∈ p0, x.block < W.heap.size := by obtain ⟨m, hm⟩ := k0; exact DataW.trod_lt m _ _ _ hm
  clear hA0 hval0
  refine (lawFrameCodes.walk v0 (hval 0 50 v0 rfl rfl) k0).mono fun e W' ⟨he, bel⟩ => ?_
  subst he
  exact ⟨_, rfl, _, _, _, [], _, [], hW', trodAll_mk1 (shut_bool Try.underlying4 _), (trodAll_cons_mk (Below.trod laidOut (by kernel_rfl) (of_decide_eq_true (by kernel_rfl)) k0 bel lt0) trodAll_mk0), rfl, bel.frame _, fun h => by cases h⟩
theorem over : Rows.frameCodesRow.holds Try.pinned (OpenSpec.ofChange Rows.frameCodesSpec) :=
  OpenClaim.holds_of_wide 5 Try.f5 rfl rfl rfl rfl rfl rfl rfl ⟨rfl, rfl, rfl, rfl, rfl⟩ rfl rfl rfl rfl rfl (by kernel_rfl) Try.func5 (by kernel_rfl)
    (of_decide_eq_true (by kernel_rfl)) (by unfold Func.isWrapper; first | (rw [if_pos (by decide +kernel)]; kernel_rfl) | (rw [if_neg (by decide +kernel)]; exact ⟨rfl, rfl⟩))
    (fun os started H enc _ => lifted os started H enc)
theorem proved : Rows.FrameCodesSaid := over
end lawFrameCodes
end Go.Proofs.Ytclnginkplhlhaa
