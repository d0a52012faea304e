/- The walks of package vlan: a table of VLANs. Conditions: the numbers are of their kinds. -/
import Derived.Test.YtclnginkplhlhaaKt
import Derived.Test.YtclnginkplhlhaaPorts
import Derived.Test.YtclnginkplhlhaaRegInv
import Derived.Maps.OwnSet
import Derived.Maps.OwnOps
namespace Go.Proofs.Ytclnginkplhlhaa
open Go.RowKit Go.Maps

/-- a VLAN as a datum -/
def vlanD (a b c : Int) : DataW Unit := .agg [.lit (.int .u16 a), .lit (.int .u32 b), .lit (.int .u32 c)]
/-- how a VLAN reads -/
def vlanR (v : Value) : Option (DataW Unit × List MemPlace) :=
  match v with
  | .agg cs => match cs.toList with
    | [.int .u16 a, .int .u32 b, .int .u32 c] => if (Lit.int .u16 a).wf = true ∧ (Lit.int .u32 b).wf = true ∧ (Lit.int .u32 c).wf = true then some (vlanD a b c, []) else none
    | _ => none
  | _ => none
def vlanV (a b c : Int) : Value := .agg #[.int .u16 a, .int .u32 b, .int .u32 c]
def vlanOk (a b c : Int) : Prop := 0 ≤ a ∧ a < 65536 ∧ 0 ≤ b ∧ b < 4294967296 ∧ 0 ≤ c ∧ c < 4294967296
theorem wf_u16 {a : Int} (h0 : 0 ≤ a) (h1 : a < 65536) : (Lit.int .u16 a).wf = true := by
  simp [Lit.wf, IntKind.min, IntKind.max, IntKind.signed, IntKind.bits]; omega
theorem wf_u32 {a : Int} (h0 : 0 ≤ a) (h1 : a < 4294967296) : (Lit.int .u32 a).wf = true := by
  simp [Lit.wf, IntKind.min, IntKind.max, IntKind.signed, IntKind.bits]; omega
theorem u16_wf {a : Int} (h : (Lit.int .u16 a).wf = true) : 0 ≤ a ∧ a < 65536 := by
  simp [Lit.wf, IntKind.min, IntKind.max, IntKind.signed, IntKind.bits] at h; omega
theorem u32_wf {a : Int} (h : (Lit.int .u32 a).wf = true) : 0 ≤ a ∧ a < 4294967296 := by
  simp [Lit.wf, IntKind.min, IntKind.max, IntKind.signed, IntKind.bits] at h; omega
theorem vlanR_mk {a b c : Int} (h : vlanOk a b c) : vlanR (vlanV a b c) = some (vlanD a b c, []) := by
  obtain ⟨h1, h2, h3, h4, h5, h6⟩ := h
  simp [vlanR, vlanV, wf_u16 h1 h2, wf_u32 h3 h4, wf_u32 h5 h6]
theorem vlanR_inv {v : Value} {d : DataW Unit} {ps : List MemPlace} (h : vlanR v = some (d, ps)) : ∃ a b c, v = vlanV a b c ∧ d = vlanD a b c ∧ vlanOk a b c := by
  unfold vlanR at h
  split at h
  · rename_i cs
    split at h
    · rename_i a b c hl
      split at h
      · rename_i hw
        simp only [Option.some.injEq, Prod.mk.injEq] at h
        refine ⟨a, b, c, ?_, h.1.symm, ?_⟩
        · rw [vlanV]
          congr 1
          apply Array.ext'
          rw [hl]
        · have h1 := u16_wf hw.1
          have h2 := u32_wf hw.2.1
          have h3 := u32_wf hw.2.2
          exact ⟨h1.1, h1.2, h2.1, h2.2, h3.1, h3.2⟩
      · cases h
    · cases h
  · cases h
/-- a datum's numbers -/
def vlanN (d : DataW Unit) : Int × Int × Int :=
  match d with
  | .agg [.lit (.int .u16 a), .lit (.int .u32 b), .lit (.int .u32 c)] => (a, b, c)
  | _ => (0, 0, 0)
theorem vlanN_mk (a b c : Int) : vlanN (vlanD a b c) = (a, b, c) := rfl
theorem keyV : Keyed Try.prog 22 := int_keyed Try.underlying22
theorem zeroVl (w : World) : (zeroValue 37).run Try.prog w = .ok (vlanV 0 0 0) w := by kernel_rfl
/-- what the table has at a number, and whether it has it -/
def getN (D : DataW Unit) (k : Int) : Int × Int × Int := vlanN (D.atKey (.int .u16 k) (vlanD 0 0 0))
def getB (D : DataW Unit) (k : Int) : Bool := Maps.has D (.int .u16 k)
/-- a table of the caller's own, behind w0 -/
def Tbl (w0 w : World) (g n : Nat) (D : DataW Unit) : Prop := ∃ b, Blk w g 90 [.map (some b)] ∧ w.ownsMap Try.prog 22 vlanR b n D ∧ w0.heap.size ≤ g ∧ w0.heap.size ≤ b ∧ g ≠ b ∧ Kept noB w0 w
theorem ownsMap_kept {S : Nat → Prop} {w w' : World} {b n : Nat} {D : DataW Unit} (h : w.ownsMap Try.prog 22 vlanR b n D) (hk : Kept S w w') (hn : ¬ S b) : w'.ownsMap Try.prog 22 vlanR b n D := by
  have hlt := h.lt
  obtain ⟨es, clock, hb, F, hs, hD⟩ := h
  exact ⟨es, clock, (hk.block b hlt hn).trans hb, F, hs, hD⟩
theorem Tbl.kept {w0 w w' : World} {g n : Nat} {D : DataW Unit} (h : Tbl w0 w g n D) (hk : Kept noB w w') : Tbl w0 w' g n D := by
  obtain ⟨b, h1, h2, h3, h4, h5, h6⟩ := h
  exact ⟨b, h1.kept hk (fun e => e), ownsMap_kept h2 hk (fun e => e), h3, h4, h5, h6.no hk⟩
theorem Tbl.here {w0 w : World} {g n : Nat} {D : DataW Unit} (h : Tbl w0 w g n D) : Kept noB w0 w := h.choose_spec.2.2.2.2.2
set_option maxRecDepth 100000 in
theorem new_calls {w0 w : World} (h : Kept noB w0 w) : Calls Try.prog 11 #[] w fun e w' => ∃ g, e = .returned (.pointer (some ⟨g, 0, none⟩)) ∧ Tbl w0 w' g 0 (.map []) := by
  have hmm := @run_makeMap Try.prog
  have o1 := World.ownsMap_made w Try.prog 22 vlanR
  have k1 := h.alloc (.map #[] 0)
  have b2 := Blk.new (w.alloc (.map #[] 0)) 90 [.map (some w.heap.size)]
  have k2 := k1.alloc (.cells [Value.map (some w.heap.size)].toArray 90)
  have o2 := o1.alloc (.cells [Value.map (some w.heap.size)].toArray 90)
  have hs : (w.alloc (.map #[] 0)).heap.size = w.heap.size + 1 := by simp
  rw [hs] at b2
  have hw := h.size
  have T : Tbl w0 ((w.alloc (.map #[] 0)).alloc (.cells [Value.map (some w.heap.size)].toArray 90)) (w.heap.size + 1) 0 (.map []) := ⟨w.heap.size, b2, o2, by omega, hw, by omega, k2⟩
  have HT := Lib.hid T
  clear o1 k1 b2 k2 o2 T
  go_enter Try.func11, Try.ntmps11
  go_wp2_with fail
  go_ret
  exact ⟨w.heap.size + 1, rfl, HT.out⟩
end Go.Proofs.Ytclnginkplhlhaa
