/- The walks of package vlan: what is got from a table. Conditions: the numbers are of their kinds. -/
import Derived.Test.YtclnginkplhlhaaVlan
namespace Go.Proofs.Ytclnginkplhlhaa
open Go.RowKit Go.Maps
theorem run_lookup_vlan {w : World} {b n : Nat} {D : DataW Unit} (hown : w.ownsMap Try.prog 22 vlanR b n D) {k : Int} (h0 : 0 ≤ k) (h1 : k < 65536) :
    (Instr.lookup 88 (.map (some b)) (.int .u16 k) true).run Try.prog w = .ok (.tuple #[vlanV (getN D k).1 (getN D k).2.1 (getN D k).2.2, .bool (getB D k)]) w ∧ vlanOk (getN D k).1 (getN D k).2.1 (getN D k).2.2 := by
  have hkey : keyOf Try.prog 22 (.int .u16 k) = some (.int .u16 k) := keyOf_int_mk Try.underlying22 (wf_u16 h0 h1)
  have hz : vlanR (vlanV 0 0 0) = some (vlanD 0 0 0, []) := vlanR_mk ⟨by omega, by omega, by omega, by omega, by omega, by omega⟩
  obtain ⟨v, ps, hrun, hv⟩ := hown.look_ok keyV Try.underlying88 (zeroVl w) hz hkey
  obtain ⟨a, b', c, rfl, hd, hok⟩ := vlanR_inv hv
  have e : getN D k = (a, b', c) := by rw [getN, hd, vlanN_mk]
  rw [e]
  exact ⟨hrun, hok⟩
theorem getN_ok {w0 w : World} {g n : Nat} {D : DataW Unit} (h : Tbl w0 w g n D) {k : Int} (h0 : 0 ≤ k) (h1 : k < 65536) : vlanOk (getN D k).1 (getN D k).2.1 (getN D k).2.2 := by
  obtain ⟨b, _, h2, _⟩ := h
  exact (run_lookup_vlan h2 h0 h1).2
theorem vlSize : (Try.prog.info? 37).map (·.size) = some 3 := by kernel_rfl
def vlanC (a b c : Int) : List Value := [.int .u16 a, .int .u32 b, .int .u32 c]
theorem results_cell_tmp3 {P : Program} {fn : Func} {p q : Tmp} {ty : TypeId} (h : fn.results = #[.cell p ty, .tmp q]) (tmps : Array Value) (w : World) (g : Nat) (t : TypeId) (cs : Array Value) (fr : Nat × Nat) (d : TypeDesc) (v : Value)
    (hp : tmps.getD p undef = .pointer (some ⟨g, 0, none⟩)) (hq : tmps.getD q undef = v) (hg : w.heap[g]? = some (.cells cs t fr))
    (hu : P.underlying ty = some d) (hd : (match d with | .struct _ | .array _ _ => true | _ => false) = true) (hi : (P.info? ty).map (·.size) = some cs.size) :
    (results fn tmps).run P w = .ok (.tuple #[.agg cs, v]) w := by
  have hp' : tmps[p]?.getD undef = .pointer (some ⟨g, 0, none⟩) := by simpa using hp
  have hq' : tmps[q]?.getD undef = v := by simpa using hq
  simp [results, h, hp', hq', asAddr, run_loadVar_row w g t ty cs fr d hg hu hd hi]
set_option maxRecDepth 100000 in
theorem get_calls {w0 w : World} {g n : Nat} {D : DataW Unit} (h : Tbl w0 w g n D) (k : Int) (h0 : 0 ≤ k) (h1 : k < 65536) :
    Calls Try.prog 14 #[.pointer (some ⟨g, 0, none⟩), .int .u16 k] w fun e w' => e = .returned (.tuple #[vlanV (getN D k).1 (getN D k).2.1 (getN D k).2.2, .bool (getB D k)]) ∧ Kept noB w w' := by
  obtain ⟨b, hb, hown, hg0, hb0, hne, hk⟩ := h
  have hlook := (run_lookup_vlan (hown.alloc (.cells #[.int .u16 0, .int .u32 0, .int .u32 0] 37)) h0 h1).1
  have cg : (w.alloc (.cells #[.int .u16 0, .int .u32 0, .int .u32 0] 37)).cell? ⟨g, 0, none⟩ = some (.map (some b)) := (hb.alloc _).cell 0
  generalize (getN D k).1 = x at *
  generalize (getN D k).2.1 = y at *
  generalize (getN D k).2.2 = z at *
  generalize getB D k = ok at *
  unfold vlanV at *
  clear hb hown hk
  go_enter Try.func14, Try.ntmps14
  go_wp2_with fail
  have hz : ((w.alloc (.cells #[.int .u16 x, .int .u32 y, .int .u32 z] 37)).alloc (.cells #[.int .u16 x, .int .u32 y, .int .u32 z] 37)).heap[w.heap.size]? = some (.cells #[.int .u16 x, .int .u32 y, .int .u32 z] 37 (0, 0)) := heap_alloc2_old w _ _
  exact bodyPost_ret (v := .tuple #[.agg #[.int .u16 x, .int .u32 y, .int .u32 z], .bool ok]) (results_cell_tmp3 rfl _ _ w.heap.size _ _ _ _ _ rfl rfl hz Try.underlying37 rfl vlSize) rfl ⟨rfl, ((Kept.refl _ _).alloc _).alloc _⟩
set_option maxRecDepth 100000 in
theorem get_nil (k : Int) (w : World) :
    Calls Try.prog 14 #[.pointer none, .int .u16 k] w fun e w' => e = .returned (.tuple #[vlanV 0 0 0, .bool false]) ∧ Kept noB w w' := by
  go_enter Try.func14, Try.ntmps14
  go_wp2_with fail
  exact bodyPost_ret (v := .tuple #[.agg #[.int .u16 0, .int .u32 0, .int .u32 0], .bool false]) (results_cell_tmp3 rfl _ _ w.heap.size _ _ _ _ _ rfl rfl (heap_alloc_new w _) Try.underlying37 rfl vlSize) rfl ⟨rfl, (Kept.refl _ _).alloc _⟩
end Go.Proofs.Ytclnginkplhlhaa
