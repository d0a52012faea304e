/- ClassifyTells: any frame at any port: its VLAN, and what becomes of it; which settings may be. No condition. -/
import Derived.Test.YtclnginkplhlhaaRows
import Derived.Test.YtclnginkplhlhaaRowKt
import Derived.Test.YtclnginkplhlhaaClassify5
namespace Go.Proofs.Ytclnginkplhlhaa
namespace lawClassifyTells
open Go.ChangeShapes Go.WideShapes Go.ChangeAt Go.RowKit
section
variable {H : Type} {enc : TypeId × Value → H} {W : World} {base : Nat} {sp : Nat → Bool} {held : Bool}
theorem c22 : Try.prog.cellsOf 22 = 1 := by kernel_rfl
theorem c33 : Try.prog.cellsOf 33 = 2 := by kernel_rfl
theorem c3 : Try.prog.cellsOf 3 = 1 := by kernel_rfl
theorem c4 : Try.prog.cellsOf 4 = 1 := by kernel_rfl
theorem c23 : Try.prog.cellsOf 23 = 1 := by kernel_rfl
theorem c25 : Try.prog.cellsOf 25 = 7 := by kernel_rfl
theorem u16_of {n : Nat} {c : Value} {y : DataW H × List MemPlace} (h : DataW.trod enc Try.prog W base sp held n 22 [c] = some y) : ∃ b : Nat, c = .int .u16 b ∧ b < 65536 := by
  obtain ⟨m, hc, _, hw⟩ := DataW.trod_int Try.underlying22 h
  have hb := bounds_u16 hw
  simp only [List.cons.injEq, and_true] at hc
  obtain ⟨b, rfl⟩ := Int.eq_ofNat_of_zero_le hb.1
  exact ⟨b, hc, by omega⟩
set_option maxRecDepth 100000 in
theorem two_of {n : Nat} {l : List Value} {y : DataW H × List MemPlace} (h : DataW.trod enc Try.prog W base sp held n 33 l = some y) :
    ∃ a b : Nat, l = [.int .u16 a, .int .u16 b] ∧ a < 65536 ∧ b < 65536 := by
  obtain ⟨xs, m, _, _, hlen, hl, hg⟩ := DataW.trod_array Try.underlying33 h
  rw [c33] at hlen
  match l, hlen with
  | [c0, c1], _ =>
    have key : ∀ i, i < 2 → ∃ y, xs[i]? = some y := fun i hi => ⟨_, List.getElem?_eq_getElem (by omega)⟩
    rw [c22] at hg
    have g0 := hg 0 (by omega)
    have g1 := hg 1 (by omega)
    obtain ⟨y0, e0⟩ := key 0 (by omega)
    obtain ⟨y1, e1⟩ := key 1 (by omega)
    rw [e0] at g0
    rw [e1] at g1
    obtain ⟨a, rfl, ha⟩ := u16_of g0
    obtain ⟨b, rfl, hb⟩ := u16_of g1
    exact ⟨a, b, rfl, ha, hb⟩
def numAt (w : World) (p : Addr) : Nat := match w.cell? p with | some (.int .u16 z) => z.toNat | _ => 0
theorem vlans_in {m : Nat} {v : Value} {y : DataW H × List MemPlace} (h : DataW.trod enc Try.prog W base sp held m 23 [v] = some y) :
    ∃ A n cap p q, v = .slice A n cap ∧ n ≤ maxLen ∧ VlAt W A n p q := by
  rcases DataW.trod_slice Try.underlying23 h with ⟨hcs, _⟩ | ⟨a, len, cap, elems, rest, n, _, hcs, _, hb, hl, hm, hel, hg, _, _⟩
  · simp only [List.cons.injEq, and_true] at hcs
    exact ⟨none, 0, 0, fun _ => 0, fun _ => 0, hcs, by omega, .inl rfl⟩
  · simp only [List.cons.injEq, and_true] at hcs
    by_cases h0 : len = 0
    · exact ⟨some a, len, cap, fun _ => 0, fun _ => 0, hcs, by omega, .inl h0⟩
    · have key : ∀ i, i < len → ∃ p q : Nat, W.cell? (a.add (i * 2)) = some (.int .u16 p) ∧ W.cell? ((a.add (i * 2)).add 1) = some (.int .u16 q) ∧ p < 65536 ∧ q < 65536 := by
        intro i hi
        have g := hg i hi
        have e : elems[i]? = some (elems[i]'(by omega)) := List.getElem?_eq_getElem (by omega)
        rw [e, c33, Option.bind_eq_some_iff] at g
        obtain ⟨cs, hc, ht⟩ := g
        obtain ⟨p, q, rfl, hp, hq⟩ := two_of ht
        obtain ⟨_, _, hat⟩ := World.cells?_some hc
        have a0 := hat 0 (by omega)
        have a1 := hat 1 (by omega)
        have z0 : (a.add (i * 2)).add 0 = a.add (i * 2) := by simp [Addr.add]
        rw [z0] at a0
        exact ⟨p, q, a0, a1, hp, hq⟩
      obtain ⟨bb, off, spot⟩ := a
      have hs : spot = none := by
        obtain ⟨p, q, k0, _⟩ := key 0 (by omega)
        have z0 : (⟨bb, off, spot⟩ : Addr).add (0 * 2) = ⟨bb, off, spot⟩ := by simp [Addr.add]
        rw [z0] at k0
        exact World.cell?_spot k0
      subst hs
      have ha : ∀ i j, (⟨bb, i, none⟩ : Addr).add j = ⟨bb, i + j, none⟩ := fun i j => by unfold Addr.add; split <;> simp_all
      refine ⟨_, len, cap, fun k => numAt W ⟨bb, off + k * 2, none⟩, fun k => numAt W ⟨bb, off + k * 2 + 1, none⟩, hcs, by omega, .inr ⟨bb, off, rfl, fun k hk => ?_⟩⟩
      obtain ⟨p, q, k0, k1, hp, hq⟩ := key k hk
      rw [ha] at k0
      rw [ha, ha] at k1
      have n0 : numAt W ⟨bb, off + k * 2, none⟩ = p := by unfold numAt; rw [k0]; simp
      have n1 : numAt W ⟨bb, off + k * 2 + 1, none⟩ = q := by unfold numAt; rw [k1]; simp
      exact ⟨k0.trans (congrArg (fun z : Nat => some (Value.int .u16 (z : Int))) n0.symm), k1.trans (congrArg (fun z : Nat => some (Value.int .u16 (z : Int))) n1.symm), Nat.lt_of_le_of_lt (Nat.le_of_eq n0) hp, Nat.lt_of_le_of_lt (Nat.le_of_eq n1) hq⟩
end
set_option maxRecDepth 100000 in
theorem walk {H : Type} {enc : TypeId × Value → H} {W : World} {base : Nat} (v : Value) {d : DataW H} {p : List MemPlace} (hv : Value.okWide Try.prog W .any base 25 v) (h : DataW.Trod enc Try.prog W 0 (fun _ => true) true 25 v d p) :
    Calls Try.prog 3 #[v] W fun e W' => e = .returned (.bool true) ∧ Below W.heap.size W W' := by
  obtain ⟨cs, rfl, hsz⟩ := okWide_struct Try.underlying25 hv
  obtain ⟨l⟩ := cs
  match l, hsz.trans c25 with
  | [x0, x1, x2, x3, x4, x5, x6], _ =>
    obtain ⟨fuel, hf⟩ := h
    obtain ⟨xs, n, _, hx, _, hlen, hg⟩ := DataW.trod_struct Try.underlying25 hf
    have key : ∀ i, i < 7 → ∃ y, xs[i]? = some y := fun i hi => ⟨_, List.getElem?_eq_getElem (by rw [hlen]; exact hi)⟩
    have g0 : DataW.trod enc Try.prog W 0 (fun _ => true) true n 22 ((([x0, x1, x2, x3, x4, x5, x6] : List Value).drop 0).take (Try.prog.cellsOf 22)) = xs[0]? := hg 0 _ rfl
    have g1 : DataW.trod enc Try.prog W 0 (fun _ => true) true n 3 ((([x0, x1, x2, x3, x4, x5, x6] : List Value).drop 1).take (Try.prog.cellsOf 3)) = xs[1]? := hg 1 _ rfl
    have g2 : DataW.trod enc Try.prog W 0 (fun _ => true) true n 4 ((([x0, x1, x2, x3, x4, x5, x6] : List Value).drop 2).take (Try.prog.cellsOf 4)) = xs[2]? := hg 2 _ rfl
    have g3 : DataW.trod enc Try.prog W 0 (fun _ => true) true n 3 ((([x0, x1, x2, x3, x4, x5, x6] : List Value).drop 3).take (Try.prog.cellsOf 3)) = xs[3]? := hg 3 _ rfl
    have g4 : DataW.trod enc Try.prog W 0 (fun _ => true) true n 4 ((([x0, x1, x2, x3, x4, x5, x6] : List Value).drop 4).take (Try.prog.cellsOf 4)) = xs[4]? := hg 4 _ rfl
    have g5 : DataW.trod enc Try.prog W 0 (fun _ => true) true n 22 ((([x0, x1, x2, x3, x4, x5, x6] : List Value).drop 5).take (Try.prog.cellsOf 22)) = xs[5]? := hg 5 _ rfl
    have g6 : DataW.trod enc Try.prog W 0 (fun _ => true) true n 23 ((([x0, x1, x2, x3, x4, x5, x6] : List Value).drop 6).take (Try.prog.cellsOf 23)) = xs[6]? := hg 6 _ rfl
    obtain ⟨y0, e0⟩ := key 0 (by omega)
    obtain ⟨y1, e1⟩ := key 1 (by omega)
    obtain ⟨y2, e2⟩ := key 2 (by omega)
    obtain ⟨y3, e3⟩ := key 3 (by omega)
    obtain ⟨y4, e4⟩ := key 4 (by omega)
    obtain ⟨y5, e5⟩ := key 5 (by omega)
    obtain ⟨y6, e6⟩ := key 6 (by omega)
    rw [e0, c22] at g0
    rw [e1, c3] at g1
    rw [e2, c4] at g2
    rw [e3, c3] at g3
    rw [e4, c4] at g4
    rw [e5, c22] at g5
    rw [e6, c23] at g6
    obtain ⟨pvid, rfl, hp⟩ := u16_of g0
    obtain ⟨acc, ha, _, _⟩ := DataW.trod_int Try.underlying3 g1
    obtain ⟨filt, hf2, _⟩ := DataW.trod_bool Try.underlying4 g2
    obtain ⟨num, hn, _, _⟩ := DataW.trod_int Try.underlying3 g3
    obtain ⟨tg, ht, _⟩ := DataW.trod_bool Try.underlying4 g4
    obtain ⟨vid, rfl, hvi⟩ := u16_of g5
    obtain ⟨A, len, cap, pp, qq, rfl, hm, hvl⟩ := vlans_in g6
    have e1 : x1 = .int .i64 acc := (List.cons.inj ha).1
    have e2 : x2 = .bool filt := (List.cons.inj hf2).1
    have e3 : x3 = .int .i64 num := (List.cons.inj hn).1
    have e4 : x4 = .bool tg := (List.cons.inj ht).1
    subst e1
    subst e2
    subst e3
    subst e4
    exact (classifyTells_walk pvid acc num filt tg vid A len cap pp qq W (by omega) (by omega) hvi hm hvl).mono fun e w' ⟨x, y⟩ => ⟨x, y.below⟩
end lawClassifyTells
namespace lawClassifyTells
open Go.ChangeShapes Go.WideShapes Go.ChangeAt Go.RowKit
open Go.ChangeMaps (open_string shut_string)
theorem own : ownKnob Try.prog.godebug = none := by kernel_rfl
theorem laidOut : laidOutB Try.prog = true := by kernel_rfl
set_option linter.unusedVariables false
set_option maxRecDepth 100000 in
theorem lifted (os : Os) (started : os.Started) (H : Type) (enc : TypeId × Value → H) :
    ReturnsInHanded {} Try.checked os 3 .any (Rows.classifyTellsSpec.pre6 enc Try.prog Try.f3 Rows.classifyTellsRow.domain false) (Rows.classifyTellsSpec.post enc Try.prog Try.f3 false true false false) := by
  refine returnsInHanded_of_change (C := Try.checked) own started (by kernel_rfl) Try.func3
    (ChangeSpec.witness6 (enc := enc) (C := Try.checked) false ⟨#[], #[.agg #[.int .u16 0, .int .i64 0, .bool false, .int .i64 0, .bool false, .int .u16 0, .slice none 0 0]], []⟩ 12 (by kernel_rfl) (by kernel_rfl) (by kernel_rfl) (by kernel_rfl)) ?_
  intro W base args ds gs before hval0 hW hcnd _
  have hval : ∀ (j : Nat) t v, Try.f3.params[j]? = some t → args[j]? = some v → Value.okWide Try.prog W .any base t v := hval0
  have hW' := hW
  obtain ⟨p, q, hA0, hV, rfl, hfz, hnd⟩ := hW
  have hA : DataW.TrodAll enc Try.prog W 0 (fun _ => true) true Try.f3.params.toList args.toList ds p := hA0
  rw [Try.params3] at hA hval
  obtain ⟨v0, vs0, d0, ds0, p0, q0, hargs, rfl, rfl, h0, r0⟩ := trodAll_cons hA
  obtain ⟨rfl, rfl, rfl⟩ := trodAll_nil r0
  obtain rfl : args = #[v0] := by cases args; simp_all
  obtain ⟨rfl, rfl⟩ := trodVars_none hV
  have k0 := h0
  have lt0 : ∀ x ∈ p0, x.block < W.heap.size := by obtain ⟨m, hm⟩ := k0; exact DataW.trod_lt m _ _ _ hm
  clear hA0 hval0
  refine (lawClassifyTells.walk v0 (hval 0 25 v0 rfl rfl) k0).mono fun e W' ⟨he, bel⟩ => ?_
  subst he
  exact ⟨_, rfl, _, _, _, [], _, [], hW', trodAll_mk1 (shut_bool Try.underlying4 _), (trodAll_cons_mk (Below.trod laidOut (by kernel_rfl) (of_decide_eq_true (by kernel_rfl)) k0 bel lt0) trodAll_mk0), rfl, bel.frame _, fun h => by cases h⟩
theorem over : Rows.classifyTellsRow.holds Try.pinned (OpenSpec.ofChange Rows.classifyTellsSpec) :=
  OpenClaim.holds_of_wide 3 Try.f3 rfl rfl rfl rfl rfl rfl rfl ⟨rfl, rfl, rfl, rfl, rfl⟩ rfl rfl rfl rfl rfl (by kernel_rfl) Try.func3 (by kernel_rfl)
    (of_decide_eq_true (by kernel_rfl)) (by unfold Func.isWrapper; first | (rw [if_pos (by decide +kernel)]; kernel_rfl) | (rw [if_neg (by decide +kernel)]; exact ⟨rfl, rfl⟩))
    (fun os started H enc _ => lifted os started H enc)
theorem proved : Rows.ClassifyTellsSaid := over
end lawClassifyTells
end Go.Proofs.Ytclnginkplhlhaa
