/- ClassifyOpen: a port that takes all, and filters none, takes any frame of a VLAN that there is; one that filters takes those alone of which it is a member. No condition. -/
import Derived.Test.YtclnginkplhlhaaRows
import Derived.Test.YtclnginkplhlhaaRowKt
import Derived.Test.YtclnginkplhlhaaClassify4
namespace Go.Proofs.Ytclnginkplhlhaa
namespace lawClassifyOpen
open Go.ChangeShapes Go.WideShapes Go.ChangeAt Go.RowKit
section
variable {H : Type} {enc : TypeId × Value → H} {W : World} {base : Nat} {sp : Nat → Bool} {held : Bool}
theorem c22 : Try.prog.cellsOf 22 = 1 := by kernel_rfl
theorem c33 : Try.prog.cellsOf 33 = 2 := by kernel_rfl
theorem u16_of {n : Nat} {c : Value} {y : DataW H × List MemPlace} (h : DataW.trod enc Try.prog W base sp held n 22 [c] = some y) : ∃ b : Int, c = .int .u16 b ∧ 0 ≤ b ∧ b < 65536 := by
  obtain ⟨m, hc, _, hw⟩ := DataW.trod_int Try.underlying22 h
  have hb := bounds_u16 hw
  simp only [List.cons.injEq, and_true] at hc
  exact ⟨m, hc, by omega, by omega⟩
theorem okWide_arr {P : Program} {w : World} {r : Reach} {b0 n : Nat} {t e : TypeId} {v : Value} (ht : P.underlying t = some (.array n e)) (h : Value.okWide P w r b0 t v) : ∃ cs, v = .agg cs := by
  simp only [Value.okWide, ht] at h
  obtain ⟨cs, h1, h2, _⟩ := h
  exact ⟨cs, h1⟩
set_option maxRecDepth 100000 in
theorem two_of {n : Nat} {l : List Value} {y : DataW H × List MemPlace} (h : DataW.trod enc Try.prog W base sp held n 33 l = some y) :
    ∃ a b : Int, l = [.int .u16 a, .int .u16 b] ∧ 0 ≤ a ∧ a < 65536 ∧ 0 ≤ b ∧ b < 65536 := by
  obtain ⟨xs, m, _, _, hlen, hl, hg⟩ := DataW.trod_array Try.underlying33 h
  rw [c33] at hlen
  match l, hlen with
  | [c0, c1], _ =>
    have key : ∀ i, i < 2 → ∃ y, xs[i]? = some y := fun i hi => ⟨_, List.getElem?_eq_getElem (by omega)⟩
    rw [c22] at hg
    have g0 := hg 0 (by omega)
    have g1 := hg 1 (by omega)
    obtain ⟨y0, e0⟩ := key 0 (by omega)
    obtain ⟨y1, e1⟩ := key 1 (by omega)
    rw [e0] at g0
    rw [e1] at g1
    obtain ⟨a, rfl, ha⟩ := u16_of g0
    obtain ⟨b, rfl, hb⟩ := u16_of g1
    exact ⟨a, b, rfl, ha.1, ha.2, hb.1, hb.2⟩
end
set_option maxRecDepth 100000 in
theorem walk {H : Type} {enc : TypeId × Value → H} {W : World} {base : Nat} (v : Value) {d : DataW H} {p : List MemPlace} (hv : Value.okWide Try.prog W .any base 33 v) (h : DataW.Trod enc Try.prog W 0 (fun _ => true) true 33 v d p)
    (num : Int) (_wn : (Lit.int .i64 num).wf = true) (tagged : Bool) :
    Calls Try.prog 4 #[v, .int .i64 num, .bool tagged] W fun e W' => e = .returned (.bool true) ∧ Below W.heap.size W W' := by
  obtain ⟨cs, rfl⟩ := okWide_arr Try.underlying33 hv
  obtain ⟨l⟩ := cs
  obtain ⟨fuel, hf⟩ := h
  obtain ⟨a, b, hl, h1, h2, h3, h4⟩ := two_of (l := l) hf
  subst hl
  obtain ⟨m, rfl⟩ := Int.eq_ofNat_of_zero_le h3
  exact (classifyOpen_in a num m tagged W h1 h2 (by omega)).mono fun e w' ⟨x, y⟩ => ⟨x, y.below⟩
end lawClassifyOpen
namespace lawClassifyOpen
open Go.ChangeShapes Go.WideShapes Go.ChangeAt Go.RowKit
open Go.ChangeMaps (open_string shut_string)
theorem own : ownKnob Try.prog.godebug = none := by kernel_rfl
theorem laidOut : laidOutB Try.prog = true := by kernel_rfl
set_option linter.unusedVariables false
set_option maxRecDepth 100000 in
theorem lifted (os : Os) (started : os.Started) (H : Type) (enc : TypeId × Value → H) :
    ReturnsInHanded {} Try.checked os 4 .any (Rows.classifyOpenSpec.pre6 enc Try.prog Try.f4 Rows.classifyOpenRow.domain false) (Rows.classifyOpenSpec.post enc Try.prog Try.f4 false true false false) := by
  refine returnsInHanded_of_change (C := Try.checked) own started (by kernel_rfl) Try.func4
    (ChangeSpec.witness6 (enc := enc) (C := Try.checked) false ⟨#[], #[.agg #[.int .u16 0, .int .u16 0], .int .i64 0, .bool false], []⟩ 12 (by kernel_rfl) (by kernel_rfl) (by kernel_rfl) (by kernel_rfl)) ?_
  intro W base args ds gs before hval0 hW hcnd _
  have hval : ∀ (j : Nat) t v, Try.f4.params[j]? = some t → args[j]? = some v → Value.okWide Try.prog W .any base t v := hval0
  have hW' := hW
  obtain ⟨p, q, hA0, hV, rfl, hfz, hnd⟩ := hW
  have hA : DataW.TrodAll enc Try.prog W 0 (fun _ => true) true Try.f4.params.toList args.toList ds p := hA0
  rw [Try.params4] at hA hval
  obtain ⟨v0, vs0, d0, ds0, p0, q0, hargs, rfl, rfl, h0, r0⟩ := trodAll_cons hA
  obtain ⟨v1, vs1, d1, ds1, p1, q1, rfl, rfl, rfl, h1, r1⟩ := trodAll_cons r0
  obtain ⟨v2, vs2, d2, ds2, p2, q2, rfl, rfl, rfl, h2, r2⟩ := trodAll_cons r1
  obtain ⟨rfl, rfl, rfl⟩ := trodAll_nil r2
  obtain rfl : args = #[v0, v1, v2] := by cases args; simp_all
  obtain ⟨rfl, rfl⟩ := trodVars_none hV
  have k0 := h0
  have lt0 : ∀ x ∈ p0, x.block < W.heap.size := by obtain ⟨m, hm⟩ := k0; exact DataW.trod_lt m _ _ _ hm
  have k1 := h1
  have lt1 : ∀ x ∈ p1, x.block < W.heap.size := by obtain ⟨m, hm⟩ := k1; exact DataW.trod_lt m _ _ _ hm
  obtain ⟨a1, rfl, _, _, w1⟩ := open_int Try.underlying3 (hval 1 3 v1 rfl rfl) h1
  have k2 := h2
  have lt2 : ∀ x ∈ p2, x.block < W.heap.size := by obtain ⟨m, hm⟩ := k2; exact DataW.trod_lt m _ _ _ hm
  obtain ⟨a2, rfl, _, _⟩ := open_bool Try.underlying4 (hval 2 4 v2 rfl rfl) h2
  clear hA0 hval0
  refine (lawClassifyOpen.walk v0 (hval 0 33 v0 rfl rfl) k0 a1 w1 a2).mono fun e W' ⟨he, bel⟩ => ?_
  subst he
  exact ⟨_, rfl, _, _, _, [], _, [], hW', trodAll_mk1 (shut_bool Try.underlying4 _), (trodAll_cons_mk (Below.trod laidOut (by kernel_rfl) (of_decide_eq_true (by kernel_rfl)) k0 bel lt0) (trodAll_cons_mk (Below.trod laidOut (by kernel_rfl) (of_decide_eq_true (by kernel_rfl)) k1 bel lt1) (trodAll_cons_mk (Below.trod laidOut (by kernel_rfl) (of_decide_eq_true (by kernel_rfl)) k2 bel lt2) trodAll_mk0))), rfl, bel.frame _, fun h => by cases h⟩
theorem over : Rows.classifyOpenRow.holds Try.pinned (OpenSpec.ofChange Rows.classifyOpenSpec) :=
  OpenClaim.holds_of_wide 4 Try.f4 rfl rfl rfl rfl rfl rfl rfl ⟨rfl, rfl, rfl, rfl, rfl⟩ rfl rfl rfl rfl rfl (by kernel_rfl) Try.func4 (by kernel_rfl)
    (of_decide_eq_true (by kernel_rfl)) (by unfold Func.isWrapper; first | (rw [if_pos (by decide +kernel)]; kernel_rfl) | (rw [if_neg (by decide +kernel)]; exact ⟨rfl, rfl⟩))
    (fun os started H enc _ => lifted os started H enc)
theorem proved : Rows.ClassifyOpenSaid := over
end lawClassifyOpen
end Go.Proofs.Ytclnginkplhlhaa
