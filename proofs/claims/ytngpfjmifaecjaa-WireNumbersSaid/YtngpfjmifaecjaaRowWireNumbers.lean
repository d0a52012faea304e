/- WireNumbers: the bytes of any number; any of its bits, and it with others in their place: just those are others. No condition. -/
import Derived.Test.YtngpfjmifaecjaaRows
import Derived.Test.YtngpfjmifaecjaaLaw01n
import Derived.ProofKit
import Derived.OpenShut
import Derived.ShutString
import Derived.ChangeOld
namespace Go.Proofs.Ytngpfjmifaecjaa
namespace lawWireNumbers
open Go.ChangeShapes Go.WideShapes Go.ChangeAt Go.RowKit
variable {H : Type} {enc : TypeId × Value → H}
set_option maxRecDepth 100000 in
theorem open3 {W : World} {base : Nat} {v : Value} {d : DataW H} {p : List MemPlace} (hv : Value.okWide Try.prog W .any base 99 v) (h : DataW.Trod enc Try.prog W 0 (fun _ => true) true 99 v d p) :
    ∃ x0 x1 x2, v = .agg #[.int .i64 x0, .int .i64 x1, .int .i64 x2] := by
  unfold Value.okWide at hv
  rw [Try.underlying99] at hv
  obtain ⟨cs, rfl, hs, _⟩ := hv
  rw [show Try.prog.cellsOf 99 = 3 by kernel_rfl] at hs
  obtain ⟨fuel, hf⟩ := h
  obtain ⟨l⟩ := cs
  match l, hs with
  | [c0, c1, c2], _ =>
    obtain ⟨y0, y1, y2, n, _, h0, h1, h2⟩ := trod_array3 Try.underlying99 (by kernel_rfl) hf
    obtain ⟨x0, e0, _⟩ := DataW.trod_int Try.underlying3 h0
    obtain ⟨x1, e1, _⟩ := DataW.trod_int Try.underlying3 h1
    obtain ⟨x2, e2, _⟩ := DataW.trod_int Try.underlying3 h2
    simp at e0 e1 e2
    exact ⟨x0, x1, x2, by rw [e0, e1, e2]⟩
set_option maxRecDepth 100000 in
theorem walk (n : Int) (wn : (Lit.int .u64 n).wf = true) (v : Int) (wv : (Lit.int .u64 v).wf = true) (x : Value) {W : World} {base : Nat} {d : DataW H} {p : List MemPlace} (hv : Value.okWide Try.prog W .any base 99 x) (h : DataW.Trod enc Try.prog W 0 (fun _ => true) true 99 x d p) :
    Calls Try.prog 11 #[.int .u64 n, .int .u64 v, x] W fun e W' => e = .returned (.bool true) ∧ Below W.heap.size W W' := by
  obtain ⟨x0, x1, x2, rfl⟩ := open3 hv h
  have hn := bounds_u64 wn
  have hv := bounds_u64 wv
  refine (wireNumbers_walk n v x0 x1 x2 W hn.1 hn.2 hv.1 hv.2).mono ?_
  rintro e w' ⟨rfl, hk⟩
  exact ⟨rfl, hk.below⟩
end lawWireNumbers
namespace lawWireNumbers
open Go.ChangeShapes Go.WideShapes Go.ChangeAt Go.RowKit
open Go.ChangeMaps (open_string shut_string)
theorem own : ownKnob Try.prog.godebug = none := by kernel_rfl
theorem laidOut : laidOutB Try.prog = true := by kernel_rfl
set_option linter.unusedVariables false
set_option maxRecDepth 100000 in
theorem lifted (os : Os) (started : os.Started) (H : Type) (enc : TypeId × Value → H) :
    ReturnsInHanded {} Try.checked os 11 .any (Rows.wireNumbersSpec.pre6 enc Try.prog Try.f11 Rows.wireNumbersRow.domain false) (Rows.wireNumbersSpec.post enc Try.prog Try.f11 false true false false) := by
  refine returnsInHanded_of_change (C := Try.checked) own started (by kernel_rfl) Try.func11
    (ChangeSpec.witness6 (enc := enc) (C := Try.checked) false ⟨#[], #[.int .u64 0, .int .u64 0, .agg #[.int .i64 0, .int .i64 0, .int .i64 0]], []⟩ 12 (by kernel_rfl) (by kernel_rfl) (by kernel_rfl) (by kernel_rfl)) ?_
  intro W base args ds gs before hval0 hW hcnd _
  have hval : ∀ (j : Nat) t v, Try.f11.params[j]? = some t → args[j]? = some v → Value.okWide Try.prog W .any base t v := hval0
  have hW' := hW
  obtain ⟨p, q, hA0, hV, rfl, hfz, hnd⟩ := hW
  have hA : DataW.TrodAll enc Try.prog W 0 (fun _ => true) true Try.f11.params.toList args.toList ds p := hA0
  rw [Try.params11] at hA hval
  obtain ⟨v0, vs0, d0, ds0, p0, q0, hargs, rfl, rfl, h0, r0⟩ := trodAll_cons hA
  obtain ⟨v1, vs1, d1, ds1, p1, q1, rfl, rfl, rfl, h1, r1⟩ := trodAll_cons r0
  obtain ⟨v2, vs2, d2, ds2, p2, q2, rfl, rfl, rfl, h2, r2⟩ := trodAll_cons r1
  obtain ⟨rfl, rfl, rfl⟩ := trodAll_nil r2
  obtain rfl : args = #[v0, v1, v2] := by cases args; simp_all
  obtain ⟨rfl, rfl⟩ := trodVars_none hV
  have k0 := h0
  have lt0 : ∀ x ∈ p0, x.block < W.heap.size := by obtain ⟨m, hm⟩ := k0; exact DataW.trod_lt m _ _ _ hm
  obtain ⟨a0, rfl, _, _, w0⟩ := open_int Try.underlying46 (hval 0 46 v0 rfl rfl) h0
  have k1 := h1
  have lt1 : ∀ x ∈ p1, x.block < W.heap.size := by obtain ⟨m, hm⟩ := k1; exact DataW.trod_lt m _ _ _ hm
  obtain ⟨a1, rfl, _, _, w1⟩ := open_int Try.underlying46 (hval 1 46 v1 rfl rfl) h1
  have k2 := h2
  have lt2 : ∀ x ∈ p2, x.block < W.heap.size := by obtain ⟨m, hm⟩ := k2; exact DataW.trod_lt m _ _ _ hm
  clear hA0 hval0
  refine (walk a0 w0 a1 w1 v2 (hval 2 99 v2 rfl rfl) k2).mono fun e W' ⟨he, bel⟩ => ?_
  subst he
  exact ⟨_, rfl, _, _, _, [], _, [], hW', trodAll_mk1 (shut_bool Try.underlying4 _), (trodAll_cons_mk (Below.trod laidOut (by kernel_rfl) (of_decide_eq_true (by kernel_rfl)) k0 bel lt0) (trodAll_cons_mk (Below.trod laidOut (by kernel_rfl) (of_decide_eq_true (by kernel_rfl)) k1 bel lt1) (trodAll_cons_mk (Below.trod laidOut (by kernel_rfl) (of_decide_eq_true (by kernel_rfl)) k2 bel lt2) trodAll_mk0))), rfl, bel.frame _, fun h => by cases h⟩
theorem over : Rows.wireNumbersRow.holds Try.pinned (OpenSpec.ofChange Rows.wireNumbersSpec) :=
  OpenClaim.holds_of_wide 11 Try.f11 rfl rfl rfl rfl rfl rfl rfl ⟨rfl, rfl, rfl, rfl, rfl⟩ rfl rfl rfl rfl rfl (by kernel_rfl) Try.func11 (by kernel_rfl)
    (of_decide_eq_true (by kernel_rfl)) (by unfold Func.isWrapper; first | (rw [if_pos (by decide +kernel)]; kernel_rfl) | (rw [if_neg (by decide +kernel)]; exact ⟨rfl, rfl⟩))
    (fun os started H enc _ => lifted os started H enc)
theorem proved : Rows.WireNumbersSaid := over
end lawWireNumbers
end Go.Proofs.Ytngpfjmifaecjaa
