/- TlvRots: of any image no beginning is one, nor is it with bytes behind it, nor with bits turned. No condition. -/
import Derived.Test.YtclnginkplhlhaaRows
import Derived.Test.YtclnginkplhlhaaRowKt
import Derived.Test.YtclnginkplhlhaaRowSecs
import Derived.Test.YtclnginkplhlhaaTlv10
namespace Go.Proofs.Ytclnginkplhlhaa
namespace lawTlvRots
open Go.ChangeShapes Go.WideShapes Go.ChangeAt Go.RowKit
theorem cImg : Try.prog.cellsOf 84 = 4 := by kernel_rfl
theorem cSl : Try.prog.cellsOf 63 = 1 := by kernel_rfl
theorem cU16 : Try.prog.cellsOf 22 = 1 := by kernel_rfl
set_option maxRecDepth 100000 in
theorem walk {H : Type} {enc : TypeId × Value → H} {W : World} {base : Nat} (v : Value) {d : DataW H} {p : List MemPlace} (hv : Value.okWide Try.prog W .any base 84 v) (h : DataW.Trod enc Try.prog W 0 (fun _ => true) true 84 v d p)
    (at' : Int) (_wa : (Lit.int .i64 at').wf = true) (B : Int) (wB : (Lit.int .u32 B).wf = true) :
    Calls Try.prog 9 #[v, .int .i64 at', .int .u32 B] W fun e W' => e = .returned (.bool true) ∧ Below W.heap.size W W' := by
  have hB := bounds_u32 wB
  obtain ⟨cs, rfl, hsz⟩ := okWide_struct Try.underlying84 hv
  obtain ⟨l⟩ := cs
  match l, hsz.trans cImg with
  | [x0, x1, x2, x3], _ =>
    obtain ⟨fuel, hf⟩ := h
    obtain ⟨xs, n, _, hx, _, hlen, hg⟩ := DataW.trod_struct Try.underlying84 hf
    have key : ∀ i, i < 4 → ∃ y, xs[i]? = some y := fun i hi => ⟨_, List.getElem?_eq_getElem (by rw [hlen]; exact hi)⟩
    have g0 : DataW.trod enc Try.prog W 0 (fun _ => true) true n 5 ((([x0, x1, x2, x3] : List Value).drop 0).take (Try.prog.cellsOf 5)) = xs[0]? := hg 0 _ rfl
    have g1 : DataW.trod enc Try.prog W 0 (fun _ => true) true n 63 ((([x0, x1, x2, x3] : List Value).drop 1).take (Try.prog.cellsOf 63)) = xs[1]? := hg 1 _ rfl
    have g2 : DataW.trod enc Try.prog W 0 (fun _ => true) true n 22 ((([x0, x1, x2, x3] : List Value).drop 2).take (Try.prog.cellsOf 22)) = xs[2]? := hg 2 _ rfl
    have g3 : DataW.trod enc Try.prog W 0 (fun _ => true) true n 9 ((([x0, x1, x2, x3] : List Value).drop 3).take (Try.prog.cellsOf 9)) = xs[3]? := hg 3 _ rfl
    obtain ⟨y0, e0⟩ := key 0 (by omega)
    obtain ⟨y1, e1⟩ := key 1 (by omega)
    obtain ⟨y2, e2⟩ := key 2 (by omega)
    obtain ⟨y3, e3⟩ := key 3 (by omega)
    rw [e0, cU8] at g0
    rw [e1, cSl] at g1
    rw [e2, cU16] at g2
    rw [e3, cStr] at g3
    obtain ⟨z0, h0, _, w0⟩ := DataW.trod_int Try.underlying5 g0
    obtain ⟨A, cap, ls, h1, hl, hs⟩ := secs_in g1
    obtain ⟨z2, h2, _, w2⟩ := DataW.trod_int Try.underlying22 g2
    obtain ⟨s, h3, _, w3⟩ := DataW.trod_string Try.underlying9 g3
    have b0 := bounds_u8 w0
    have b2 := bounds_u16 w2
    obtain ⟨ver, rfl⟩ := Int.eq_ofNat_of_zero_le b0.1
    obtain ⟨cut, rfl⟩ := Int.eq_ofNat_of_zero_le b2.1
    have e : s.data.toList.length = s.size := Array.length_toList
    have w3' : s.size ≤ 9223372036854775807 := w3
    have hsl : (s.data.toList.length : Int) ≤ 9223372036854775807 := by rw [e]; omega
    have f0 : x0 = .int .u8 ver := (List.cons.inj h0).1
    have f2 : x2 = .int .u16 cut := (List.cons.inj h2).1
    have f3 : x3 = .string s := (List.cons.inj h3).1
    subst f0 h1 f2 f3
    exact (tlvRots_walk ver cut (by omega) (by omega) ls A cap s.data.toList hsl at' B hB.1 hB.2 W hs hl).mono fun e w' ⟨x, y⟩ => ⟨x, y.below⟩
end lawTlvRots
namespace lawTlvRots
open Go.ChangeShapes Go.WideShapes Go.ChangeAt Go.RowKit
open Go.ChangeMaps (open_string shut_string)
theorem own : ownKnob Try.prog.godebug = none := by kernel_rfl
theorem laidOut : laidOutB Try.prog = true := by kernel_rfl
set_option linter.unusedVariables false
set_option maxRecDepth 100000 in
theorem lifted (os : Os) (started : os.Started) (H : Type) (enc : TypeId × Value → H) :
    ReturnsInHanded {} Try.checked os 9 .any (Rows.tlvRotsSpec.pre6 enc Try.prog Try.f9 Rows.tlvRotsRow.domain false) (Rows.tlvRotsSpec.post enc Try.prog Try.f9 false true false false) := by
  refine returnsInHanded_of_change (C := Try.checked) own started (by kernel_rfl) Try.func9
    (ChangeSpec.witness6 (enc := enc) (C := Try.checked) false ⟨#[], #[.agg #[.int .u8 0, .slice none 0 0, .int .u16 0, .string ⟨#[]⟩], .int .i64 0, .int .u32 0], []⟩ 12 (by kernel_rfl) (by kernel_rfl) (by kernel_rfl) (by kernel_rfl)) ?_
  intro W base args ds gs before hval0 hW hcnd _
  have hval : ∀ (j : Nat) t v, Try.f9.params[j]? = some t → args[j]? = some v → Value.okWide Try.prog W .any base t v := hval0
  have hW' := hW
  obtain ⟨p, q, hA0, hV, rfl, hfz, hnd⟩ := hW
  have hA : DataW.TrodAll enc Try.prog W 0 (fun _ => true) true Try.f9.params.toList args.toList ds p := hA0
  rw [Try.params9] at hA hval
  obtain ⟨v0, vs0, d0, ds0, p0, q0, hargs, rfl, rfl, h0, r0⟩ := trodAll_cons hA
  obtain ⟨v1, vs1, d1, ds1, p1, q1, rfl, rfl, rfl, h1, r1⟩ := trodAll_cons r0
  obtain ⟨v2, vs2, d2, ds2, p2, q2, rfl, rfl, rfl, h2, r2⟩ := trodAll_cons r1
  obtain ⟨rfl, rfl, rfl⟩ := trodAll_nil r2
  obtain rfl : args = #[v0, v1, v2] := by cases args; simp_all
  obtain ⟨rfl, rfl⟩ := trodVars_none hV
  have k0 := h0
  have lt0 : ∀ x ∈ p0, x.block < W.heap.size := by obtain ⟨m, hm⟩ := k0; exact DataW.trod_lt m _ _ _ hm
  have k1 := h1
  have lt1 : ∀ x ∈ p1, x.block < W.heap.size := by obtain ⟨m, hm⟩ := k1; exact DataW.trod_lt m _ _ _ hm
  obtain ⟨a1, rfl, _, _, w1⟩ := open_int Try.underlying3 (hval 1 3 v1 rfl rfl) h1
  have k2 := h2
  have lt2 : ∀ x ∈ p2, x.block < W.heap.size := by obtain ⟨m, hm⟩ := k2; exact DataW.trod_lt m _ _ _ hm
  obtain ⟨a2, rfl, _, _, w2⟩ := open_int Try.underlying34 (hval 2 34 v2 rfl rfl) h2
  clear hA0 hval0
  refine (lawTlvRots.walk v0 (hval 0 84 v0 rfl rfl) k0 a1 w1 a2 w2).mono fun e W' ⟨he, bel⟩ => ?_
  subst he
  exact ⟨_, rfl, _, _, _, [], _, [], hW', trodAll_mk1 (shut_bool Try.underlying4 _), (trodAll_cons_mk (Below.trod laidOut (by kernel_rfl) (of_decide_eq_true (by kernel_rfl)) k0 bel lt0) (trodAll_cons_mk (Below.trod laidOut (by kernel_rfl) (of_decide_eq_true (by kernel_rfl)) k1 bel lt1) (trodAll_cons_mk (Below.trod laidOut (by kernel_rfl) (of_decide_eq_true (by kernel_rfl)) k2 bel lt2) trodAll_mk0))), rfl, bel.frame _, fun h => by cases h⟩
theorem over : Rows.tlvRotsRow.holds Try.pinned (OpenSpec.ofChange Rows.tlvRotsSpec) :=
  OpenClaim.holds_of_wide 9 Try.f9 rfl rfl rfl rfl rfl rfl rfl ⟨rfl, rfl, rfl, rfl, rfl⟩ rfl rfl rfl rfl rfl (by kernel_rfl) Try.func9 (by kernel_rfl)
    (of_decide_eq_true (by kernel_rfl)) (by unfold Func.isWrapper; first | (rw [if_pos (by decide +kernel)]; kernel_rfl) | (rw [if_neg (by decide +kernel)]; exact ⟨rfl, rfl⟩))
    (fun os started H enc _ => lifted os started H enc)
theorem proved : Rows.TlvRotsSaid := over
end lawTlvRots
end Go.Proofs.Ytclnginkplhlhaa
