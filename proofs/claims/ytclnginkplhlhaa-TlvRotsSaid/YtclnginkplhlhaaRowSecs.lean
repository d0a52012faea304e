/- Slices of sections that came in. No condition. -/
import Derived.Test.YtclnginkplhlhaaRows
import Derived.Test.YtclnginkplhlhaaRowKt
import Derived.Test.YtclnginkplhlhaaTlv2
namespace Go.Proofs.Ytclnginkplhlhaa
open Go.ChangeShapes Go.WideShapes Go.ChangeAt Go.RowKit
section
variable {H : Type} {enc : TypeId × Value → H} {W : World} {base : Nat} {sp : Nat → Bool} {held : Bool}
theorem cSec : Try.prog.cellsOf 106 = 2 := by kernel_rfl
theorem cU8 : Try.prog.cellsOf 5 = 1 := by kernel_rfl
theorem cStr : Try.prog.cellsOf 9 = 1 := by kernel_rfl
set_option maxRecDepth 100000 in
theorem sec_of {n : Nat} {l : List Value} {y : DataW H × List MemPlace} (h : DataW.trod enc Try.prog W base sp held n 106 l = some y) :
    ∃ (a : Nat) (s : ByteArray), l = [.int .u8 a, .string s] ∧ a < 256 := by
  obtain ⟨xs, m, _, _, hcl, hlen, hg⟩ := DataW.trod_struct Try.underlying106 h
  rw [cSec] at hcl
  match l, hcl with
  | [x0, x1], _ =>
    have key : ∀ i, i < 2 → ∃ y, xs[i]? = some y := fun i hi => ⟨_, List.getElem?_eq_getElem (by rw [hlen]; exact hi)⟩
    have g0 : DataW.trod enc Try.prog W base sp held m 5 ((([x0, x1] : List Value).drop 0).take (Try.prog.cellsOf 5)) = xs[0]? := hg 0 _ rfl
    have g1 : DataW.trod enc Try.prog W base sp held m 9 ((([x0, x1] : List Value).drop 1).take (Try.prog.cellsOf 9)) = xs[1]? := hg 1 _ rfl
    obtain ⟨y0, e0⟩ := key 0 (by omega)
    obtain ⟨y1, e1⟩ := key 1 (by omega)
    rw [e0, cU8] at g0
    rw [e1, cStr] at g1
    obtain ⟨z, hz, _, hw⟩ := DataW.trod_int Try.underlying5 g0
    obtain ⟨s, hs, _, _⟩ := DataW.trod_string Try.underlying9 g1
    have hb := bounds_u8 hw
    obtain ⟨b, rfl⟩ := Int.eq_ofNat_of_zero_le hb.1
    have h0 : x0 = .int .u8 b := (List.cons.inj hz).1
    have h1 : x1 = .string s := (List.cons.inj hs).1
    subst h0 h1
    exact ⟨b, s, rfl, by omega⟩
def kindAt (w : World) (p : Addr) : UInt8 := match w.cell? p with | some (.int .u8 z) => UInt8.ofNat z.toNat | _ => 0
def textAt (w : World) (p : Addr) : List UInt8 := match w.cell? p with | some (.string s) => s.data.toList | _ => []
theorem secs_in {m : Nat} {v : Value} {y : DataW H × List MemPlace} (h : DataW.trod enc Try.prog W base sp held m 63 [v] = some y) :
    ∃ A cap, ∃ l : List Sec, v = .slice A l.length cap ∧ l.length ≤ maxLen ∧ SecAt W A l := by
  rcases DataW.trod_slice Try.underlying63 h with ⟨hcs, _⟩ | ⟨a, len, cap, elems, rest, n, _, hcs, _, hb, hl, hm, hel, hg, _, _⟩
  · simp only [List.cons.injEq, and_true] at hcs
    exact ⟨none, 0, [], hcs, Nat.zero_le _, .inl rfl⟩
  · simp only [List.cons.injEq, and_true] at hcs
    by_cases h0 : len = 0
    · subst h0
      exact ⟨some a, cap, [], hcs, Nat.zero_le _, .inl rfl⟩
    · have key : ∀ i, i < len → ∃ (p : Nat) (s : ByteArray), W.cell? (a.add (i * 2)) = some (.int .u8 p) ∧ W.cell? ((a.add (i * 2)).add 1) = some (.string s) ∧ p < 256 := by
        intro i hi
        have g := hg i hi
        have e : elems[i]? = some (elems[i]'(by omega)) := List.getElem?_eq_getElem (by omega)
        rw [e, cSec, Option.bind_eq_some_iff] at g
        obtain ⟨cs, hc, ht⟩ := g
        obtain ⟨p, q, rfl, hp⟩ := sec_of ht
        obtain ⟨_, _, hat⟩ := World.cells?_some hc
        have a0 := hat 0 (by omega)
        have a1 := hat 1 (by omega)
        have z0 : (a.add (i * 2)).add 0 = a.add (i * 2) := by simp [Addr.add]
        rw [z0] at a0
        exact ⟨p, q, a0, a1, hp⟩
      obtain ⟨bb, off, spot⟩ := a
      have hs : spot = none := by
        obtain ⟨p, q, k0, _⟩ := key 0 (by omega)
        have z0 : (⟨bb, off, spot⟩ : Addr).add (0 * 2) = ⟨bb, off, spot⟩ := by simp [Addr.add]
        rw [z0] at k0
        exact World.cell?_spot k0
      subst hs
      have ha : ∀ i j, (⟨bb, i, none⟩ : Addr).add j = ⟨bb, i + j, none⟩ := fun i j => by unfold Addr.add; split <;> simp_all
      refine ⟨_, cap, (List.range len).map fun k => (kindAt W ⟨bb, off + k * 2, none⟩, textAt W ⟨bb, off + k * 2 + 1, none⟩), by rw [hcs]; simp, by simp; omega, .inr ⟨bb, off, rfl, fun k x hx => ?_⟩⟩
      obtain ⟨hk, hxe⟩ := List.getElem?_eq_some_iff.1 hx
      simp at hk
      simp at hxe
      obtain ⟨p, s, k0, k1, hp⟩ := key k hk
      rw [ha] at k0
      rw [ha, ha] at k1
      subst hxe
      have n0 : ((kindAt W ⟨bb, off + k * 2, none⟩).toNat : Int) = (p : Int) := by
        unfold kindAt
        rw [k0]
        simp
        omega
      have n1 : bs (textAt W ⟨bb, off + k * 2 + 1, none⟩) = s := by
        unfold textAt
        rw [k1]
        rfl
      refine ⟨k0.trans ?_, k1.trans ?_⟩
      · show some (Value.int .u8 (p : Int)) = some (Value.int .u8 ((kindAt W ⟨bb, off + k * 2, none⟩).toNat : Int))
        rw [n0]
      · show some (Value.string s) = some (Value.string (bs (textAt W ⟨bb, off + k * 2 + 1, none⟩)))
        rw [n1]
end
end Go.Proofs.Ytclnginkplhlhaa
