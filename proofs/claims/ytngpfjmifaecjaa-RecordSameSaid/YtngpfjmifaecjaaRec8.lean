/- girderlaw14.Made. Conditions: the numbers are of their kinds. (Printed by wip/mkrec7.py.) -/
import Derived.Test.YtngpfjmifaecjaaRec7
namespace Go.Proofs.Ytngpfjmifaecjaa
open Go.RowKit
set_option linter.unusedSimpArgs false
theorem take_map_succ {l : List (List Value)} {f : List Value → List Value} {k : Nat} {p : List Value} (h : l[k]? = some p) : (l.take (k + 1)).map f = (l.take k).map f ++ [f p] := by
  obtain ⟨hk, hp⟩ := List.getElem?_eq_some_iff.1 h
  rw [List.take_succ_eq_append_getElem hk, hp, List.map_append]
  rfl
theorem take_map_len {l : List (List Value)} {f : List Value → List Value} {k : Nat} (h : k ≤ l.length) : ((l.take k).map f).length = k := by
  rw [List.length_map, List.length_take]
  omega
theorem head_form {l : List Value} (h : fits ksH l) : l = [.int .u64 (intAt l 0), .int .i64 (intAt l 1), .int .i64 (intAt l 2), .int .i64 (intAt l 3), .int .i64 (intAt l 4), .int .i64 (intAt l 5), .int .i64 (intAt l 6)] := by
  match l, h with
  | [_, _, _, _, _, _, _], ⟨⟨_, rfl⟩, ⟨_, rfl⟩, ⟨_, rfl⟩, ⟨_, rfl⟩, ⟨_, rfl⟩, ⟨_, rfl⟩, ⟨_, rfl⟩, _⟩ => rfl
theorem inpC_len {x : Inp} (h : x.ok) (P V S F : Value) : (inpC x P V S F).length = 25 := by
  simp [inpC, fits_length h.head, fits_length h.cnt, ksH, ksN]
theorem inpC_head {x : Inp} (h : x.ok) (P V S F : Value) {i : Nat} (hi : i < 7) : (inpC x P V S F)[i]? = x.head[i]? := by
  unfold inpC
  rw [List.getElem?_append_left (by rw [fits_length h.head]; exact hi)]
theorem inpC_at {x : Inp} (h : x.ok) (P V S F : Value) (i : Nat) : (inpC x P V S F)[7 + i]? = (P :: V :: S :: F :: x.cnt)[i]? := by
  have hl : x.head.length = 7 := fits_length h.head
  unfold inpC
  rw [List.getElem?_append_right (by omega), hl, Nat.add_sub_cancel_left]
theorem run_buildRec (l : List Value) (hl : l.length = 14) (z0 z1 z2 z3 z4 z5 b : Int) (w : World) : (Instr.build 63 #[(0, .agg #[.int .u64 z0, .int .i64 z1, .int .i64 z2, .int .i64 z3, .int .i64 z4, .int .i64 z5]), (6, .int .i64 b), (5, .agg l.toArray)]).run Try.prog w = .ok (.agg ([Value.int .u64 z0, .int .i64 z1, .int .i64 z2, .int .i64 z3, .int .i64 z4, .int .i64 z5] ++ (.slice none 0 0 :: .slice none 0 0 :: .slice none 0 0 :: .slice none 0 0 :: (l ++ [Value.int .i64 b]))).toArray) w := by
  match l, hl with
  | [_, _, _, _, _, _, _, _, _, _, _, _, _, _], _ => show _ = _; kernel_rfl
theorem MadeAt.goP {x : Inp} {w wr wz : World} {xc : List Value} {B X k : Nat} {P V S F u : Value} {p : List Value} (hok : (madeN x k 0 0 0).ok) (hM : MadeAt w xc B X (madeN x k 0 0 0) P V S F wr) (hp : x.ports[k]? = some p)
    (hb : Blk wz X 63 ((recC (madeN x k 0 0 0) P V S F).set 6 u)) (ho : wz.ownsRow B 72 21 u (k + 1) (((x.ports.take k).map toldP).flatten ++ toldP p)) (hk : Kept (apK X P) wr wz) (hB : w.heap.size = B) : MadeAt w xc B X (madeN x (k + 1) 0 0 0) u V S F wz := by
  have hkl : k < x.ports.length := (List.getElem?_eq_some_iff.1 hp).1
  have hne := hM.ne
  refine ⟨?_, ⟨?_, owns_keptA hM.own.vlans hk (owns_ne hM.own.vlans hM.blk (by decide)) (fun g e => owns_apart hM.own.vlans hM.own.ports (by decide) e), owns_keptA hM.own.stat hk (owns_ne hM.own.stat hM.blk (by decide)) (fun g e => owns_apart hM.own.stat hM.own.ports (by decide) e), owns_keptA hM.own.fdb hk (owns_ne hM.own.fdb hM.blk (by decide)) (fun g e => owns_apart hM.own.fdb hM.own.ports (by decide) e)⟩, hM.arg.kept hk (apK_ne (by omega) (owns_ne hM.own.ports hM.arg (by decide))), hM.res.kept hk (apK_ne (by omega) (owns_ne hM.own.ports hM.res (by decide))), hne, hM.kept.then hk (fun i hi e => ?_)⟩
  · rw [recC_set6 hok] at hb
    exact hb
  · show wz.ownsRow B _ _ u ((x.ports.take (k + 1)).map toldP).length ((x.ports.take (k + 1)).map toldP).flatten
    rw [take_map_len (by omega), take_map_succ hp, flat_append1]
    exact ho
  · rcases e with e | e
    · omega
    · have := (hM.own.ports.lt i e).1
      omega
theorem MadeAt.goV {x : Inp} {w wr wz : World} {xc : List Value} {B X k : Nat} {P V S F u : Value} {p : List Value} (hok : (madeN x 16 k 0 0).ok) (hM : MadeAt w xc B X (madeN x 16 k 0 0) P V S F wr) (hp : x.vlans[k]? = some p)
    (hb : Blk wz X 63 ((recC (madeN x 16 k 0 0) P V S F).set 7 u)) (ho : wz.ownsRow B 75 3 u (k + 1) (((x.vlans.take k).map vlP).flatten ++ vlP p)) (hk : Kept (apK X V) wr wz) (hB : w.heap.size = B) : MadeAt w xc B X (madeN x 16 (k + 1) 0 0) P u S F wz := by
  have hkl : k < x.vlans.length := (List.getElem?_eq_some_iff.1 hp).1
  have hne := hM.ne
  refine ⟨?_, ⟨owns_keptA hM.own.ports hk (owns_ne hM.own.ports hM.blk (by decide)) (fun g e => owns_apart hM.own.ports hM.own.vlans (by decide) e), ?_, owns_keptA hM.own.stat hk (owns_ne hM.own.stat hM.blk (by decide)) (fun g e => owns_apart hM.own.stat hM.own.vlans (by decide) e), owns_keptA hM.own.fdb hk (owns_ne hM.own.fdb hM.blk (by decide)) (fun g e => owns_apart hM.own.fdb hM.own.vlans (by decide) e)⟩, hM.arg.kept hk (apK_ne (by omega) (owns_ne hM.own.vlans hM.arg (by decide))), hM.res.kept hk (apK_ne (by omega) (owns_ne hM.own.vlans hM.res (by decide))), hne, hM.kept.then hk (fun i hi e => ?_)⟩
  · rw [recC_set7 hok] at hb
    exact hb
  · show wz.ownsRow B _ _ u ((x.vlans.take (k + 1)).map vlP).length ((x.vlans.take (k + 1)).map vlP).flatten
    rw [take_map_len (by omega), take_map_succ hp, flat_append1]
    exact ho
  · rcases e with e | e
    · omega
    · have := (hM.own.vlans.lt i e).1
      omega
theorem MadeAt.goS {x : Inp} {w wr wz : World} {xc : List Value} {B X k : Nat} {P V S F u : Value} {p : List Value} (hok : (madeN x 16 16 k 0).ok) (hM : MadeAt w xc B X (madeN x 16 16 k 0) P V S F wr) (hp : x.stat[k]? = some p)
    (hb : Blk wz X 63 ((recC (madeN x 16 16 k 0) P V S F).set 8 u)) (ho : wz.ownsRow B 81 8 u (k + 1) (((x.stat.take k).map stP).flatten ++ stP p)) (hk : Kept (apK X S) wr wz) (hB : w.heap.size = B) : MadeAt w xc B X (madeN x 16 16 (k + 1) 0) P V u F wz := by
  have hkl : k < x.stat.length := (List.getElem?_eq_some_iff.1 hp).1
  have hne := hM.ne
  refine ⟨?_, ⟨owns_keptA hM.own.ports hk (owns_ne hM.own.ports hM.blk (by decide)) (fun g e => owns_apart hM.own.ports hM.own.stat (by decide) e), owns_keptA hM.own.vlans hk (owns_ne hM.own.vlans hM.blk (by decide)) (fun g e => owns_apart hM.own.vlans hM.own.stat (by decide) e), ?_, owns_keptA hM.own.fdb hk (owns_ne hM.own.fdb hM.blk (by decide)) (fun g e => owns_apart hM.own.fdb hM.own.stat (by decide) e)⟩, hM.arg.kept hk (apK_ne (by omega) (owns_ne hM.own.stat hM.arg (by decide))), hM.res.kept hk (apK_ne (by omega) (owns_ne hM.own.stat hM.res (by decide))), hne, hM.kept.then hk (fun i hi e => ?_)⟩
  · rw [recC_set8 hok] at hb
    exact hb
  · show wz.ownsRow B _ _ u ((x.stat.take (k + 1)).map stP).length ((x.stat.take (k + 1)).map stP).flatten
    rw [take_map_len (by omega), take_map_succ hp, flat_append1]
    exact ho
  · rcases e with e | e
    · omega
    · have := (hM.own.stat.lt i e).1
      omega
theorem MadeAt.goF {x : Inp} {w wr wz : World} {xc : List Value} {B X k : Nat} {P V S F u : Value} {p : List Value} (hok : (madeN x 16 16 16 k).ok) (hM : MadeAt w xc B X (madeN x 16 16 16 k) P V S F wr) (hp : x.fdb[k]? = some p)
    (hb : Blk wz X 63 ((recC (madeN x 16 16 16 k) P V S F).set 9 u)) (ho : wz.ownsRow B 85 9 u (k + 1) (((x.fdb.take k).map fdP).flatten ++ fdP p)) (hk : Kept (apK X F) wr wz) (hB : w.heap.size = B) : MadeAt w xc B X (madeN x 16 16 16 (k + 1)) P V S u wz := by
  have hkl : k < x.fdb.length := (List.getElem?_eq_some_iff.1 hp).1
  have hne := hM.ne
  refine ⟨?_, ⟨owns_keptA hM.own.ports hk (owns_ne hM.own.ports hM.blk (by decide)) (fun g e => owns_apart hM.own.ports hM.own.fdb (by decide) e), owns_keptA hM.own.vlans hk (owns_ne hM.own.vlans hM.blk (by decide)) (fun g e => owns_apart hM.own.vlans hM.own.fdb (by decide) e), owns_keptA hM.own.stat hk (owns_ne hM.own.stat hM.blk (by decide)) (fun g e => owns_apart hM.own.stat hM.own.fdb (by decide) e), ?_⟩, hM.arg.kept hk (apK_ne (by omega) (owns_ne hM.own.fdb hM.arg (by decide))), hM.res.kept hk (apK_ne (by omega) (owns_ne hM.own.fdb hM.res (by decide))), hne, hM.kept.then hk (fun i hi e => ?_)⟩
  · rw [recC_set9 hok] at hb
    exact hb
  · show wz.ownsRow B _ _ u ((x.fdb.take (k + 1)).map fdP).length ((x.fdb.take (k + 1)).map fdP).flatten
    rw [take_map_len (by omega), take_map_succ hp, flat_append1]
    exact ho
  · rcases e with e | e
    · omega
    · have := (hM.own.fdb.lt i e).1
      omega
set_option maxRecDepth 100000 in
set_option maxHeartbeats 20000000 in
theorem made_calls (x : Inp) (P0 V0 S0 F0 : Value) (w : World) (hok : x.ok) (h : InpAt w x P0 V0 S0 F0) :
    Calls Try.prog 29 #[.agg (inpC x P0 V0 S0 F0).toArray] w fun e w' => ∃ P V S F, e = .returned (.agg (recC (made x) P V S F).toArray) ∧ RecOwn w.heap.size w' (made x) P V S F ∧ Kept noB w w' := by
  have hlen := inpC_len hok P0 V0 S0 F0
  have hb1 := (Blk.new w 53 (inpC x P0 V0 S0 F0)).alloc (.cells zeroR.toArray 63)
  have hb2 := Blk.new (w.alloc (.cells (inpC x P0 V0 S0 F0).toArray 53)) 63 zeroR
  have hkw : Kept noB w ((w.alloc (.cells (inpC x P0 V0 S0 F0).toArray 53)).alloc (.cells zeroR.toArray 63)) := ((Kept.refl _ _).alloc _).alloc _
  have hsz : ((w.alloc (.cells (inpC x P0 V0 S0 F0).toArray 53)).alloc (.cells zeroR.toArray 63)).heap.size = w.heap.size + 2 := by simp
  rw [show (w.alloc (.cells (inpC x P0 V0 S0 F0).toArray 53)).heap.size = w.heap.size + 1 by simp] at hb2
  have hx7 := inpC_at hok P0 V0 S0 F0 0
  have hx8 := inpC_at hok P0 V0 S0 F0 1
  have hx9 := inpC_at hok P0 V0 S0 F0 2
  have hx10 := inpC_at hok P0 V0 S0 F0 3
  have hxc : ∀ j v, x.cnt[j]? = some v → (inpC x P0 V0 S0 F0)[11 + j]? = some v := fun j v hv => by
    rw [show 11 + j = 7 + (j + 4) by omega, inpC_at hok]
    exact hv
  have hxh := fun i (hi : i < 7) => inpC_head hok P0 V0 S0 F0 hi
  obtain ⟨⟨A1, n1, e1, r1⟩, ⟨A2, n2, e2, r2⟩, ⟨A3, n3, e3, r3⟩, ⟨A4, n4, e4, r4⟩⟩ := h
  generalize inpC x P0 V0 S0 F0 = xc at *
  have HX7 := Lib.hid hx7
  have HX8 := Lib.hid hx8
  have HX9 := Lib.hid hx9
  have HX10 := Lib.hid hx10
  have HXC := Lib.hid hxc
  have HXH := Lib.hid hxh
  have HOK := Lib.hid hok
  have E1 := Lib.hid e1
  have E2 := Lib.hid e2
  have E3 := Lib.hid e3
  have E4 := Lib.hid e4
  have R1 := Lib.hid r1
  have R2 := Lib.hid r2
  have R3 := Lib.hid r3
  have R4 := Lib.hid r4
  clear hlen hx7 hx8 hx9 hx10 hxc hxh hok e1 e2 e3 e4 r1 r2 r3 r4
  go_enter Try.func29, Try.ntmps29
  go_upto_region 1 with (fail)
  change Code.wp _ _ _ _ ((w.alloc (.cells xc.toArray 53)).alloc (.cells zeroR.toArray 63))
  generalize (w.alloc (.cells xc.toArray 53)).alloc (.cells zeroR.toArray 63) = W0 at *
  obtain ⟨B, hB⟩ : ∃ B, w.heap.size = B := ⟨_, rfl⟩
  rw [hB] at hb1 hb2 hsz ⊢
  have hh := HOK.out.head
  have c0 : W0.cell? ⟨B, 0, none⟩ = some (.int .u64 (intAt x.head 0)) := ((hb1.cell 0).trans (HXH.out 0 (by decide))).trans (int_at hh rfl)
  have c1 : W0.cell? ⟨B, 1, none⟩ = some (.int .i64 (intAt x.head 1)) := ((hb1.cell 1).trans (HXH.out 1 (by decide))).trans (int_at hh rfl)
  have c2 : W0.cell? ⟨B, 2, none⟩ = some (.int .i64 (intAt x.head 2)) := ((hb1.cell 2).trans (HXH.out 2 (by decide))).trans (int_at hh rfl)
  have c3 : W0.cell? ⟨B, 3, none⟩ = some (.int .i64 (intAt x.head 3)) := ((hb1.cell 3).trans (HXH.out 3 (by decide))).trans (int_at hh rfl)
  have c4 : W0.cell? ⟨B, 4, none⟩ = some (.int .i64 (intAt x.head 4)) := ((hb1.cell 4).trans (HXH.out 4 (by decide))).trans (int_at hh rfl)
  have c5 : W0.cell? ⟨B, 5, none⟩ = some (.int .i64 (intAt x.head 5)) := ((hb1.cell 5).trans (HXH.out 5 (by decide))).trans (int_at hh rfl)
  have c6 : W0.cell? ⟨B, 6, none⟩ = some (.int .i64 (intAt x.head 6)) := ((hb1.cell 6).trans (HXH.out 6 (by decide))).trans (int_at hh rfl)
  have hcnt : W0.rangeAt B 11 x.cnt := hb1.range HXC.out
  have hcl : x.cnt.length = 14 := fits_length HOK.out.cnt
  have sN : (Try.prog.info? 51).map (·.size) = some x.cnt.length := by rw [hcl]; kernel_rfl
  have hrec : [Value.int .u64 (intAt x.head 0), .int .i64 (intAt x.head 1), .int .i64 (intAt x.head 2), .int .i64 (intAt x.head 3), .int .i64 (intAt x.head 4), .int .i64 (intAt x.head 5)] ++ (.slice none 0 0 :: .slice none 0 0 :: .slice none 0 0 :: .slice none 0 0 :: (x.cnt ++ [Value.int .i64 (intAt x.head 6)])) = recC (madeN x 0 0 0 0) (.slice none 0 0) (.slice none 0 0) (.slice none 0 0) (.slice none 0 0) := by
    unfold recC madeN
    congr 1
    conv => rhs; rw [head_form hh]
    rfl
  have hbr := fun w => run_buildRec x.cnt hcl (intAt x.head 0) (intAt x.head 1) (intAt x.head 2) (intAt x.head 3) (intAt x.head 4) (intAt x.head 5) (intAt x.head 6) w
  rw [hrec] at hbr
  have mok := madeN_ok HOK.out 0 0 0 0 (by decide) (by decide) (by decide) (by decide)
  have ml := recC_len mok (.slice none 0 0) (.slice none 0 0) (.slice none 0 0) (.slice none 0 0)
  have own0 : RecOwn B W0 (madeN x 0 0 0 0) (.slice none 0 0) (.slice none 0 0) (.slice none 0 0) (.slice none 0 0) := ⟨World.ownsRow_nil _ _ _ _, World.ownsRow_nil _ _ _ _, World.ownsRow_nil _ _ _ _, World.ownsRow_nil _ _ _ _⟩
  have h1c : (recC (madeN x 0 0 0 0) (.slice none 0 0) (.slice none 0 0) (.slice none 0 0) (.slice none 0 0)).toArray.all (·.oneCell') = true := all_oneCell_toArray (recC_one mok own0)
  have hs : (Try.prog.info? 63).map (·.size) = some (recC (madeN x 0 0 0 0) (.slice none 0 0) (.slice none 0 0) (.slice none 0 0) (.slice none 0 0)).toArray.size := by rw [List.size_toArray, ml]; exact sizeR
  have hold : zeroR.toArray.size = (recC (madeN x 0 0 0 0) (.slice none 0 0) (.slice none 0 0) (.slice none 0 0) (.slice none 0 0)).toArray.size := by rw [List.size_toArray, List.size_toArray, ml]; rfl
  have hz := Blk.new W0 63 zeroR
  rw [hsz] at hz
  have hbX := hz.row (recC (madeN x 0 0 0 0) (.slice none 0 0) (.slice none 0 0) (.slice none 0 0) (.slice none 0 0))
  have k3 : Kept noB W0 ((W0.alloc (.cells zeroR.toArray 63)).setRow (B + 2) (recC (madeN x 0 0 0 0) (.slice none 0 0) (.slice none 0 0) (.slice none 0 0) (.slice none 0 0)).toArray) := ((Kept.refl _ _).alloc _).setRow (fun h => by omega) _
  have HBR := Lib.hid hbr
  clear hbr
  have hM : MadeAt w xc B (B + 2) (madeN x 0 0 0 0) (.slice none 0 0) (.slice none 0 0) (.slice none 0 0) (.slice none 0 0) ((W0.alloc (.cells zeroR.toArray 63)).setRow (B + 2) (recC (madeN x 0 0 0 0) (.slice none 0 0) (.slice none 0 0) (.slice none 0 0) (.slice none 0 0)).toArray) :=
    ⟨hbX, own0.kept k3, hb1.kept k3 (fun e => e), hb2.kept k3 (fun e => e), by omega, hkw.no k3⟩
  have HM := Lib.hid hM
  have HB := Lib.hid hB
  have HSZ := Lib.hid hsz
  clear hM k3 hbX own0 mok ml hrec hcl hB hkw hb1 hb2 hh
  generalize recC (madeN x 0 0 0 0) (.slice none 0 0) (.slice none 0 0) (.slice none 0 0) (.slice none 0 0) = ds at *
  generalize intAt x.head 0 = z0 at *
  generalize intAt x.head 1 = z1 at *
  generalize intAt x.head 2 = z2 at *
  generalize intAt x.head 3 = z3 at *
  generalize intAt x.head 4 = z4 at *
  generalize intAt x.head 5 = z5 at *
  generalize intAt x.head 6 = z6 at *
  go_upto_region 2 with (first | (refine wpList_buildR rfl 63 [(0, .tmp 25), (6, .tmp 28), (5, .tmp 30)] rfl [(0, .agg #[.int .u64 z0, .int .i64 z1, .int .i64 z2, .int .i64 z3, .int .i64 z4, .int .i64 z5]), (6, .int .i64 z6), (5, .agg x.cnt.toArray)] rfl (.agg ds.toArray) HBR.out ?_) | (refine wpList_load_mid rfl 51 (.tmp 29) rfl B 11 rfl x.cnt _ (by exact hcnt) Try.underlying51 rfl sN ?_) | (refine wpList_store_row rfl 63 (.tmp 3) (.tmp 31) rfl (B + 2) ds.toArray rfl rfl _ zeroR.toArray (by exact hz) hs hold h1c ?_))
  change Code.wp _ _ _ _ ((W0.alloc (.cells zeroR.toArray 63)).setRow (B + 2) ds.toArray)
  clear hcnt sN h1c hs hold hz
  have hM := HM.out
  generalize (W0.alloc (.cells zeroR.toArray 63)).setRow (B + 2) ds.toArray = W1 at *
  have HMa : ∃ P V S F, MadeAt w xc B (B + 2) (madeN x 0 0 0 0) P V S F W1 := ⟨_, _, _, _, hM⟩
  clear hM HM c0 c1 c2 c3 c4 c5 c6
  obtain ⟨X, hX⟩ : ∃ X, B + 2 = X := ⟨_, rfl⟩
  rw [hX] at HMa ⊢
  have HXX := Lib.hid hX
  clear hX HSZ HBR
  have hE := HMa
  clear HMa
  have HE := Lib.hid hE
  clear hE
  go_upto_block 0 with (fail)
  go_cut [4] (fun s wx => ∃ k : Nat, s = .int .i64 k ∧ ∃ P V S F, MadeAt w xc B X (madeN x 16 0 0 0) P V S F wx)
  case first =>
    go_wp2_with fail
    go_loopw [4] (fun i wr => ∃ k : Nat, k ≤ 16 ∧ k ≤ x.ports.length ∧ i = .int .i64 k ∧ ∃ P V S F, MadeAt w xc B X (madeN x k 0 0 0) P V S F wr) (fun i _ => 16 - (intOf i).toNat)
    case atStart =>
      obtain ⟨P, V, S, F, hM⟩ := HE.out
      exact ⟨0, by omega, Nat.zero_le _, rfl, P, V, S, F, hM⟩
    case round =>
      obtain ⟨k, hk16, hkn, rfl, P, V, S, F, hM⟩ := hrel
      have fB : wr.cell? ⟨B, 7, none⟩ = some (.slice A1 x.ports.length n1) := by
        rw [hM.arg.cell, HX7.out, ← E1.out]
        rfl
      have hnl : x.ports.length ≤ 9223372036854775807 := by have := HOK.out.l1; unfold maxLen at this; exact this
      have HMr := Lib.hid hM
      clear hM
      by_cases hlt : k < x.ports.length ∧ k < 16
      · obtain ⟨hlt1, hlt2⟩ := hlt
        have hlti : (k : Int) < (x.ports.length : Int) := by omega
        have hlt2' : (k : Int) < 16 := by omega
        obtain ⟨p, hp⟩ : ∃ p, x.ports[k]? = some p := ⟨_, List.getElem?_eq_getElem hlt1⟩
        have hfp := fitsAll_get HOK.out.ports hp
        have rr := R1.out.kept HMr.out.kept
        obtain ⟨g, off, rfl, fr⟩ := rr.get hp
        have hpl : p.length = 21 := fits_length hfp
        have sIn : (Try.prog.info? 107).map (·.size) = some p.length := by rw [hpl]; kernel_rfl
        have HP := Lib.hid hp
        have FR := Lib.hid fr
        clear hp rr
        go_wp2_with fail
        have hM := HMr.out
        have mok := madeN_ok HOK.out k 0 0 0 (by omega) (by omega) (by omega) (by omega)
        have fr := FR.out
        obtain ⟨i0, hi0, hz0, hz1, hz2⟩ := info_parts infoP
        have HI := Lib.hid hi0
        have HZ0 := Lib.hid hz0
        have HZ1 := Lib.hid hz1
        have HZ2 := Lib.hid hz2
        have hne := hM.ne
        have hXl : X < wr.heap.size := hM.blk.lt
        have hbB : B ≤ wr.heap.size := by omega
        have hdv := recC_6 mok P V S F
        have hol : 6 < (recC (madeN x k 0 0 0) P V S F).length := by rw [recC_len mok]; decide
        have hown : wr.ownsRow B 72 21 P k (((x.ports.take k).map toldP).flatten) := by
          have := hM.own.ports
          have e : (madeN x k 0 0 0).ports.length = k := take_map_len hkn
          rw [e] at this
          exact this
        have hvX : P.ownBlock ≠ some X := owns_ne hown hM.blk (by decide)
        have hvXg : ∀ g, P.ownBlock = some g → g ≠ X := fun g h e => hvX (by rw [h, e])
        have hvl : ∀ g, P.ownBlock = some g → g < wr.heap.size := fun g h => (hown.lt g h).2
        have nB : ¬ apK X P B := apK_ne (by omega) (owns_ne hown hM.arg (by decide))
        have hgw : g < w.heap.size := by
          have h0 := (R1.out.at HP.out) 0 _ (List.getElem?_eq_getElem (by rw [fits_length hfp]; decide))
          exact World.block_lt_of_cell? w _ h0
        have hBw := HB.out
        have nG : ¬ apK X P g := fun e => by
          rcases e with e | e
          · omega
          · have := (hown.lt g e).1; omega
        have rl : (toldP p).length = 21 := fits_length (toldP_fits p)
        have r1 := one_fits (toldP_fits p)
        have hn63 : k + 1 ≤ maxLen := by unfold maxLen; omega
        have hnb : (k + 1) * 136 ≤ 140737488355328 := by omega
        clear hi0 hz0 hz1 hz2
        refine wp_region_inv (by kernel_rfl) (by kernel_rfl) (AP _ mdPD (mdPV p B X g off n1 k x.ports.length P) wr X 6 63 (recC (madeN x k 0 0 0) P V S F) B 72 21 P k (((x.ports.take k).map toldP).flatten) (toldP p) 1 8 9 11) (AP.start hM.blk hdv hown) ?_ ?_
        · intro f a' wz hI i o ho hfi hall
          have hi : i < 12 := (Array.getElem?_eq_some_iff.1 ho).1
          rcases (by omega : i = 0 ∨ i = 1 ∨ i = 2 ∨ i = 3 ∨ i = 4 ∨ i = 5 ∨ i = 6 ∨ i = 7 ∨ i = 8 ∨ i = 9 ∨ i = 10 ∨ i = 11) with rfl | rfl | rfl | rfl | rfl | rfl | rfl | rfl | rfl | rfl | rfl | rfl
          all_goals
            simp only [List.getElem?_toArray, List.getElem?_cons_zero, List.getElem?_cons_succ, Option.some.injEq] at ho
            subst ho
          · have e3 : a'.eval (.tmp 3) = .pointer (some ⟨X, 0, none⟩) := hI.old (by decide)
            refine wp_value (w' := wz) ?_ (AP.one hI (d := 43) (by kernel_rfl) (by decide) rfl (by decide) (by decide) (Kept.refl _ _))
            (unfold execOp; simp only [List.map_toArray, List.map_cons, List.map_nil, e3]; (try simp [go_sem, e3]); try omega)
          · have e43 : a'.eval (.tmp 43) = .pointer (some ⟨X, 6, none⟩) := AP.get hI (i := 0) (by decide) rfl (hall ⟨0, .data⟩ (by simp) rfl)
            have hc := hI.cell hfi hdv
            refine wp_value (w' := wz) ?_ (AP.one hI (d := 44) (by kernel_rfl) (by decide) rfl (by decide) (by decide) (Kept.refl _ _))
            (unfold execOp; simp only [List.map_toArray, List.map_cons, List.map_nil, e43, hc]; (try simp [go_sem, e43, hc]); try omega)
          · have e1 : a'.eval (.tmp 1) = .pointer (some ⟨B, 0, none⟩) := hI.old (by decide)
            refine wp_value (w' := wz) ?_ (AP.one hI (d := 45) (by kernel_rfl) (by decide) rfl (by decide) (by decide) (Kept.refl _ _))
            (unfold execOp; simp only [List.map_toArray, List.map_cons, List.map_nil, e1]; (try simp [go_sem, e1]); try omega)
          · have e45 : a'.eval (.tmp 45) = .pointer (some ⟨B, 7, none⟩) := AP.get hI (i := 2) (by decide) rfl (hall ⟨2, .data⟩ (by simp) rfl)
            refine wp_value (w' := wz) ?_ (AP.one hI (d := 46) (by kernel_rfl) (by decide) rfl (by decide) (by decide) (Kept.refl _ _))
            (unfold execOp; simp only [List.map_toArray, List.map_cons, List.map_nil, e45, hI.kept.cell fB nB]; (try simp [go_sem, e45, hI.kept.cell fB nB]); try omega)
          · have e4 : a'.eval (.tmp 4) = .int .i64 (k : Int) := hI.old (by decide)
            refine wp_value (w' := wz) ?_ (AP.one hI (d := 47) (by kernel_rfl) (by decide) rfl (by decide) (by decide) (Kept.refl _ _))
            (unfold execOp; simp only [List.map_toArray, List.map_cons, List.map_nil, e4]; (try simp [go_sem, e4]); try omega)
          · have e46 : a'.eval (.tmp 46) = .slice (some ⟨g, off, none⟩) x.ports.length n1 := AP.get hI (i := 3) (by decide) rfl (hall ⟨3, .data⟩ (by simp) rfl)
            have e47 : a'.eval (.tmp 47) = .int .i64 (k : Int) := AP.get hI (i := 4) (by decide) rfl (hall ⟨4, .data⟩ (by simp) rfl)
            refine wp_value (w' := wz) ?_ (AP.one hI (d := 48) (by kernel_rfl) (by decide) rfl (by decide) (by decide) (Kept.refl _ _))
            (unfold execOp; simp only [List.map_toArray, List.map_cons, List.map_nil, e46, e47, hlti]; (try simp [go_sem, e46, e47, hlti]); try omega)
          · have e48 : a'.eval (.tmp 48) = .pointer (some ⟨g, off + k * 21, none⟩) := AP.get hI (i := 5) (by decide) rfl (hall ⟨5, .data⟩ (by simp) rfl)
            exact wp_load_mid _ _ rfl g (off + k * 21) e48 p _ (rangeAt_kept fr hI.kept nG) Try.underlying107 rfl sIn (AP.one hI (d := 49) (by kernel_rfl) (by decide) rfl (by decide) (by decide) (Kept.refl _ _))
          · have e49 : a'.eval (.tmp 49) = .agg p.toArray := AP.get hI (i := 6) (by decide) rfl (hall ⟨6, .data⟩ (by simp) rfl)
            refine wp_go Try.func50 rfl rfl (args := #[.agg p.toArray]) (by simp only [List.map_toArray, List.map_cons, List.map_nil, e49]) ((told_calls p wz hfp).mono ?_)
            rintro e w' ⟨rfl, hk⟩
            exact ⟨_, rfl, AP.one hI (d := 50) (by kernel_rfl) (by decide) rfl (by decide) (by decide) hk⟩
          · have e50 : a'.eval (.tmp 50) = .agg (toldP p).toArray := AP.get hI (i := 7) (by decide) rfl (hall ⟨7, .data⟩ (by simp) rfl)
            refine wp_value (w' := wz.alloc (.cells (toldP p).toArray 72)) ?_ (AP.build hI (d := 51) (by kernel_rfl) (by decide) rfl (by decide) (by decide))
            unfold execOp
            simp only [List.map_toArray, List.map_cons, List.map_nil, e50]
            exact run_val (run_bsP p wz)
          · have e44 : a'.eval (.tmp 44) = P := AP.get hI (i := 1) (by decide) rfl (hall ⟨1, .data⟩ (by simp) rfl)
            exact AP.app hI (d := 52) (d1 := 44) (d2 := 51) (by kernel_rfl) (by decide) rfl rfl 57 rfl e44 hfi (hall ⟨1, .data⟩ (by simp) rfl) (by decide) rfl (hall ⟨8, .data⟩ (by simp) rfl) (by decide) (by decide) i0 (.agg #[.int .u16 0, .int .i64 0, .bool false, .int .u32 0, .int .i64 0, .bool false, .bool false, .bool false, .bool false, .bool false, .int .i64 0, .int .i64 0, .int .i64 0, .int .u64 0, .int .u32 0, .int .u64 0, .int .u16 0, .int .i64 0, .int .i64 0, .int .i64 0, .int .i64 0]) 136 Try.underlying57 HI.out HZ0.out HZ1.out HZ2.out rfl (by decide) rl r1 hn63 hnb hbB hvX hvl hXl
          · have e3 : a'.eval (.tmp 3) = .pointer (some ⟨X, 0, none⟩) := hI.old (by decide)
            refine wp_value (w' := wz) ?_ (AP.one hI (d := 53) (by kernel_rfl) (by decide) rfl (by decide) (by decide) (Kept.refl _ _))
            (unfold execOp; simp only [List.map_toArray, List.map_cons, List.map_nil, e3]; (try simp [go_sem, e3]); try omega)
          · have e53 : a'.eval (.tmp 53) = .pointer (some ⟨X, 6, none⟩) := AP.get hI (i := 10) (by decide) rfl (hall ⟨10, .data⟩ (by simp) rfl)
            obtain ⟨u, e52, hform, ⟨x0, hcl⟩, hfz, hst⟩ := AP.store hI (d2 := 52) (by decide) (by decide) rfl (hall ⟨9, .data⟩ (by simp) rfl) (by decide) hvXg hXl hol
            refine wp_skip (w' := wz.setCell ⟨X, 6, none⟩ u) ?_ (hst _)
            rcases hform with rfl | ⟨g9, c9, rfl⟩
            · (unfold execOp; simp only [List.map_toArray, List.map_cons, List.map_nil, e53, e52, hcl, hfz]; (try simp [go_sem, e53, e52, hcl, hfz]); try omega)
            · (unfold execOp; simp only [List.map_toArray, List.map_cons, List.map_nil, e53, e52, hcl, hfz]; (try simp [go_sem, e53, e52, hcl, hfz]); try omega)
        · intro f a' wz hf hI
          obtain ⟨u, hb9, ho9, _, hk9⟩ := AP.finish hI (hf 11 (by decide))
          have hN := hM.goP mok HP.out hb9 ho9 hk9 HB.out
          have HN := Lib.hid hN
          have ho := hI.out
          clear hI hf hb9 ho9 hk9 hN hM mok fr FR fB hown hdv hol hvX hvXg hvl nB nG hgw rl r1 hn63 hnb
          simp only [mdPD, List.foldl_cons, List.foldl_nil] at ho
          generalize a'.tmps.getD 43 undef = y43 at *
          generalize a'.tmps.getD 44 undef = y44 at *
          generalize a'.tmps.getD 45 undef = y45 at *
          generalize a'.tmps.getD 46 undef = y46 at *
          generalize a'.tmps.getD 47 undef = y47 at *
          generalize a'.tmps.getD 48 undef = y48 at *
          generalize a'.tmps.getD 49 undef = y49 at *
          generalize a'.tmps.getD 50 undef = y50 at *
          generalize a'.tmps.getD 51 undef = y51 at *
          generalize a'.tmps.getD 52 undef = y52 at *
          generalize a'.tmps.getD 53 undef = y53 at *
          subst ho
          simp only [List.setIfInBounds_toArray, List.set_cons_zero, List.set_cons_succ]
          go_wp2_with fail
          exact ⟨⟨k + 1, by omega, by omega, by go_num, _, _, _, _, HN.out⟩, by simp [intOf]; omega⟩
      · have e16 : madeN x k 0 0 0 = madeN x 16 0 0 0 := by
          unfold madeN
          congr 2
          rcases (by omega : k = 16 ∨ x.ports.length = k) with h | h
          · rw [h]
          · rw [List.take_of_length_le (by omega), List.take_of_length_le (by omega)]
        have E16 := Lib.hid e16
        clear e16
        rcases (show (x.ports.length : Int) ≤ (k : Int) ∨ ((k : Int) < (x.ports.length : Int) ∧ (16 : Int) ≤ (k : Int)) by omega) with hex | ⟨hex, hex2⟩
        · clear hlt
          go_wp2_with fail
          go_meet
          exact ⟨k, rfl, P, V, S, F, by have := HMr.out; rwa [E16.out] at this⟩
        · clear hlt
          go_wp2_with fail
          go_meet
          exact ⟨k, rfl, P, V, S, F, by have := HMr.out; rwa [E16.out] at this⟩
  case rest =>
  clear HE
  rename World => wc0
  obtain ⟨kc, rfl, HMa⟩ := hcut
  have hE := HMa
  clear HMa
  have HE := Lib.hid hE
  clear hE
  go_upto_block 2 with (fail)
  go_cut [5] (fun s wx => ∃ k : Nat, s = .int .i64 k ∧ ∃ P V S F, MadeAt w xc B X (madeN x 16 16 0 0) P V S F wx)
  case first =>
    go_wp2_with fail
    go_loopw [5] (fun i wr => ∃ k : Nat, k ≤ 16 ∧ k ≤ x.vlans.length ∧ i = .int .i64 k ∧ ∃ P V S F, MadeAt w xc B X (madeN x 16 k 0 0) P V S F wr) (fun i _ => 16 - (intOf i).toNat)
    case atStart =>
      obtain ⟨P, V, S, F, hM⟩ := HE.out
      exact ⟨0, by omega, Nat.zero_le _, rfl, P, V, S, F, hM⟩
    case round =>
      obtain ⟨k, hk16, hkn, rfl, P, V, S, F, hM⟩ := hrel
      have fB : wr.cell? ⟨B, 8, none⟩ = some (.slice A2 x.vlans.length n2) := by
        rw [hM.arg.cell, HX8.out, ← E2.out]
        rfl
      have hnl : x.vlans.length ≤ 9223372036854775807 := by have := HOK.out.l2; unfold maxLen at this; exact this
      have HMr := Lib.hid hM
      clear hM
      by_cases hlt : k < x.vlans.length ∧ k < 16
      · obtain ⟨hlt1, hlt2⟩ := hlt
        have hlti : (k : Int) < (x.vlans.length : Int) := by omega
        have hlt2' : (k : Int) < 16 := by omega
        obtain ⟨p, hp⟩ : ∃ p, x.vlans[k]? = some p := ⟨_, List.getElem?_eq_getElem hlt1⟩
        have hfp := fitsAll_get HOK.out.vlans hp
        have rr := R2.out.kept HMr.out.kept
        obtain ⟨g, off, rfl, fr⟩ := rr.get hp
        have hu16 := HOK.out.v16 p (List.mem_of_getElem? hp)
        have f0 : wr.cell? ⟨g, off + k * 3, none⟩ = some (.int .u16 (intAt p 0)) := fr 0 _ (int_at hfp rfl)
        have bd0 := hu16 0 (by decide)
        have f1 : wr.cell? ⟨g, off + k * 3 + 1, none⟩ = some (.int .u16 (intAt p 1)) := fr 1 _ (int_at hfp rfl)
        have bd1 := hu16 1 (by decide)
        have f2 : wr.cell? ⟨g, off + k * 3 + 2, none⟩ = some (.int .u16 (intAt p 2)) := fr 2 _ (int_at hfp rfl)
        have bd2 := hu16 2 (by decide)
        have wu321 : IntKind.u32.wrap (intAt p 1) = intAt p 1 := by rw [IntKind.wrap_u32]; omega
        have wu322 : IntKind.u32.wrap (intAt p 2) = intAt p 2 := by rw [IntKind.wrap_u32]; omega
        have HP := Lib.hid hp
        have FR := Lib.hid fr
        clear hp rr
        go_wp2_with fail
        have hM := HMr.out
        have mok := madeN_ok HOK.out 16 k 0 0 (by omega) (by omega) (by omega) (by omega)
        have fr := FR.out
        obtain ⟨i0, hi0, hz0, hz1, hz2⟩ := info_parts infoV
        have HI := Lib.hid hi0
        have HZ0 := Lib.hid hz0
        have HZ1 := Lib.hid hz1
        have HZ2 := Lib.hid hz2
        have hne := hM.ne
        have hXl : X < wr.heap.size := hM.blk.lt
        have hbB : B ≤ wr.heap.size := by omega
        have hdv := recC_7 mok P V S F
        have hol : 7 < (recC (madeN x 16 k 0 0) P V S F).length := by rw [recC_len mok]; decide
        have hown : wr.ownsRow B 75 3 V k (((x.vlans.take k).map vlP).flatten) := by
          have := hM.own.vlans
          have e : (madeN x 16 k 0 0).vlans.length = k := take_map_len hkn
          rw [e] at this
          exact this
        have hvX : V.ownBlock ≠ some X := owns_ne hown hM.blk (by decide)
        have hvXg : ∀ g, V.ownBlock = some g → g ≠ X := fun g h e => hvX (by rw [h, e])
        have hvl : ∀ g, V.ownBlock = some g → g < wr.heap.size := fun g h => (hown.lt g h).2
        have nB : ¬ apK X V B := apK_ne (by omega) (owns_ne hown hM.arg (by decide))
        have hgw : g < w.heap.size := by
          have h0 := (R2.out.at HP.out) 0 _ (List.getElem?_eq_getElem (by rw [fits_length hfp]; decide))
          exact World.block_lt_of_cell? w _ h0
        have hBw := HB.out
        have nG : ¬ apK X V g := fun e => by
          rcases e with e | e
          · omega
          · have := (hown.lt g e).1; omega
        have rl : (vlP p).length = 3 := fits_length (vlP_fits p)
        have r1 := one_fits (vlP_fits p)
        have hn63 : k + 1 ≤ maxLen := by unfold maxLen; omega
        have hnb : (k + 1) * 12 ≤ 140737488355328 := by omega
        clear hi0 hz0 hz1 hz2
        refine wp_region_inv (by kernel_rfl) (by kernel_rfl) (AP _ mdVD (mdVV p B X g off n2 k x.vlans.length V) wr X 7 63 (recC (madeN x 16 k 0 0) P V S F) B 75 3 V k (((x.vlans.take k).map vlP).flatten) (vlP p) 1 23 24 26) (AP.start hM.blk hdv hown) ?_ ?_
        · intro f a' wz hI i o ho hfi hall
          have hi : i < 27 := (Array.getElem?_eq_some_iff.1 ho).1
          rcases (by omega : i = 0 ∨ i = 1 ∨ i = 2 ∨ i = 3 ∨ i = 4 ∨ i = 5 ∨ i = 6 ∨ i = 7 ∨ i = 8 ∨ i = 9 ∨ i = 10 ∨ i = 11 ∨ i = 12 ∨ i = 13 ∨ i = 14 ∨ i = 15 ∨ i = 16 ∨ i = 17 ∨ i = 18 ∨ i = 19 ∨ i = 20 ∨ i = 21 ∨ i = 22 ∨ i = 23 ∨ i = 24 ∨ i = 25 ∨ i = 26) with rfl | rfl | rfl | rfl | rfl | rfl | rfl | rfl | rfl | rfl | rfl | rfl | rfl | rfl | rfl | rfl | rfl | rfl | rfl | rfl | rfl | rfl | rfl | rfl | rfl | rfl | rfl
          all_goals
            simp only [List.getElem?_toArray, List.getElem?_cons_zero, List.getElem?_cons_succ, Option.some.injEq] at ho
            subst ho
          · have e3 : a'.eval (.tmp 3) = .pointer (some ⟨X, 0, none⟩) := hI.old (by decide)
            refine wp_value (w' := wz) ?_ (AP.one hI (d := 65) (by kernel_rfl) (by decide) rfl (by decide) (by decide) (Kept.refl _ _))
            (unfold execOp; simp only [List.map_toArray, List.map_cons, List.map_nil, e3]; (try simp [go_sem, e3]); try omega)
          · have e65 : a'.eval (.tmp 65) = .pointer (some ⟨X, 7, none⟩) := AP.get hI (i := 0) (by decide) rfl (hall ⟨0, .data⟩ (by simp) rfl)
            have hc := hI.cell hfi hdv
            refine wp_value (w' := wz) ?_ (AP.one hI (d := 66) (by kernel_rfl) (by decide) rfl (by decide) (by decide) (Kept.refl _ _))
            (unfold execOp; simp only [List.map_toArray, List.map_cons, List.map_nil, e65, hc]; (try simp [go_sem, e65, hc]); try omega)
          · have e1 : a'.eval (.tmp 1) = .pointer (some ⟨B, 0, none⟩) := hI.old (by decide)
            refine wp_value (w' := wz) ?_ (AP.one hI (d := 67) (by kernel_rfl) (by decide) rfl (by decide) (by decide) (Kept.refl _ _))
            (unfold execOp; simp only [List.map_toArray, List.map_cons, List.map_nil, e1]; (try simp [go_sem, e1]); try omega)
          · have e67 : a'.eval (.tmp 67) = .pointer (some ⟨B, 8, none⟩) := AP.get hI (i := 2) (by decide) rfl (hall ⟨2, .data⟩ (by simp) rfl)
            refine wp_value (w' := wz) ?_ (AP.one hI (d := 68) (by kernel_rfl) (by decide) rfl (by decide) (by decide) (Kept.refl _ _))
            (unfold execOp; simp only [List.map_toArray, List.map_cons, List.map_nil, e67, hI.kept.cell fB nB]; (try simp [go_sem, e67, hI.kept.cell fB nB]); try omega)
          · have e5 : a'.eval (.tmp 5) = .int .i64 (k : Int) := hI.old (by decide)
            refine wp_value (w' := wz) ?_ (AP.one hI (d := 69) (by kernel_rfl) (by decide) rfl (by decide) (by decide) (Kept.refl _ _))
            (unfold execOp; simp only [List.map_toArray, List.map_cons, List.map_nil, e5]; (try simp [go_sem, e5]); try omega)
          · have e68 : a'.eval (.tmp 68) = .slice (some ⟨g, off, none⟩) x.vlans.length n2 := AP.get hI (i := 3) (by decide) rfl (hall ⟨3, .data⟩ (by simp) rfl)
            have e69 : a'.eval (.tmp 69) = .int .i64 (k : Int) := AP.get hI (i := 4) (by decide) rfl (hall ⟨4, .data⟩ (by simp) rfl)
            refine wp_value (w' := wz) ?_ (AP.one hI (d := 70) (by kernel_rfl) (by decide) rfl (by decide) (by decide) (Kept.refl _ _))
            (unfold execOp; simp only [List.map_toArray, List.map_cons, List.map_nil, e68, e69, hlti]; (try simp [go_sem, e68, e69, hlti]); try omega)
          · have e70 : a'.eval (.tmp 70) = .pointer (some ⟨g, off + k * 3, none⟩) := AP.get hI (i := 5) (by decide) rfl (hall ⟨5, .data⟩ (by simp) rfl)
            refine wp_value (w' := wz) ?_ (AP.one hI (d := 71) (by kernel_rfl) (by decide) rfl (by decide) (by decide) (Kept.refl _ _))
            (unfold execOp; simp only [List.map_toArray, List.map_cons, List.map_nil, e70]; (try simp [go_sem, e70]); try omega)
          · have e71 : a'.eval (.tmp 71) = .pointer (some ⟨g, off + k * 3, none⟩) := AP.get hI (i := 6) (by decide) rfl (hall ⟨6, .data⟩ (by simp) rfl)
            refine wp_value (w' := wz) ?_ (AP.one hI (d := 72) (by kernel_rfl) (by decide) rfl (by decide) (by decide) (Kept.refl _ _))
            (unfold execOp; simp only [List.map_toArray, List.map_cons, List.map_nil, e71, hI.kept.cell f0 nG]; (try simp [go_sem, e71, hI.kept.cell f0 nG]); try omega)
          · have e1 : a'.eval (.tmp 1) = .pointer (some ⟨B, 0, none⟩) := hI.old (by decide)
            refine wp_value (w' := wz) ?_ (AP.one hI (d := 73) (by kernel_rfl) (by decide) rfl (by decide) (by decide) (Kept.refl _ _))
            (unfold execOp; simp only [List.map_toArray, List.map_cons, List.map_nil, e1]; (try simp [go_sem, e1]); try omega)
          · have e73 : a'.eval (.tmp 73) = .pointer (some ⟨B, 8, none⟩) := AP.get hI (i := 8) (by decide) rfl (hall ⟨8, .data⟩ (by simp) rfl)
            refine wp_value (w' := wz) ?_ (AP.one hI (d := 74) (by kernel_rfl) (by decide) rfl (by decide) (by decide) (Kept.refl _ _))
            (unfold execOp; simp only [List.map_toArray, List.map_cons, List.map_nil, e73, hI.kept.cell fB nB]; (try simp [go_sem, e73, hI.kept.cell fB nB]); try omega)
          · have e5 : a'.eval (.tmp 5) = .int .i64 (k : Int) := hI.old (by decide)
            refine wp_value (w' := wz) ?_ (AP.one hI (d := 75) (by kernel_rfl) (by decide) rfl (by decide) (by decide) (Kept.refl _ _))
            (unfold execOp; simp only [List.map_toArray, List.map_cons, List.map_nil, e5]; (try simp [go_sem, e5]); try omega)
          · have e74 : a'.eval (.tmp 74) = .slice (some ⟨g, off, none⟩) x.vlans.length n2 := AP.get hI (i := 9) (by decide) rfl (hall ⟨9, .data⟩ (by simp) rfl)
            have e75 : a'.eval (.tmp 75) = .int .i64 (k : Int) := AP.get hI (i := 10) (by decide) rfl (hall ⟨10, .data⟩ (by simp) rfl)
            refine wp_value (w' := wz) ?_ (AP.one hI (d := 76) (by kernel_rfl) (by decide) rfl (by decide) (by decide) (Kept.refl _ _))
            (unfold execOp; simp only [List.map_toArray, List.map_cons, List.map_nil, e74, e75, hlti]; (try simp [go_sem, e74, e75, hlti]); try omega)
          · have e76 : a'.eval (.tmp 76) = .pointer (some ⟨g, off + k * 3, none⟩) := AP.get hI (i := 11) (by decide) rfl (hall ⟨11, .data⟩ (by simp) rfl)
            refine wp_value (w' := wz) ?_ (AP.one hI (d := 77) (by kernel_rfl) (by decide) rfl (by decide) (by decide) (Kept.refl _ _))
            (unfold execOp; simp only [List.map_toArray, List.map_cons, List.map_nil, e76]; (try simp [go_sem, e76]); try omega)
          · have e77 : a'.eval (.tmp 77) = .pointer (some ⟨g, off + k * 3 + 1, none⟩) := AP.get hI (i := 12) (by decide) rfl (hall ⟨12, .data⟩ (by simp) rfl)
            refine wp_value (w' := wz) ?_ (AP.one hI (d := 78) (by kernel_rfl) (by decide) rfl (by decide) (by decide) (Kept.refl _ _))
            (unfold execOp; simp only [List.map_toArray, List.map_cons, List.map_nil, e77, hI.kept.cell f1 nG]; (try simp [go_sem, e77, hI.kept.cell f1 nG]); try omega)
          · have e78 : a'.eval (.tmp 78) = .int .u16 (intAt p 1) := AP.get hI (i := 13) (by decide) rfl (hall ⟨13, .data⟩ (by simp) rfl)
            refine wp_value (w' := wz) ?_ (AP.one hI (d := 79) (by kernel_rfl) (by decide) rfl (by decide) (by decide) (Kept.refl _ _))
            (unfold execOp; simp only [List.map_toArray, List.map_cons, List.map_nil, e78, wu321]; (try simp [go_sem, e78, wu321]); try omega)
          · have e1 : a'.eval (.tmp 1) = .pointer (some ⟨B, 0, none⟩) := hI.old (by decide)
            refine wp_value (w' := wz) ?_ (AP.one hI (d := 80) (by kernel_rfl) (by decide) rfl (by decide) (by decide) (Kept.refl _ _))
            (unfold execOp; simp only [List.map_toArray, List.map_cons, List.map_nil, e1]; (try simp [go_sem, e1]); try omega)
          · have e80 : a'.eval (.tmp 80) = .pointer (some ⟨B, 8, none⟩) := AP.get hI (i := 15) (by decide) rfl (hall ⟨15, .data⟩ (by simp) rfl)
            refine wp_value (w' := wz) ?_ (AP.one hI (d := 81) (by kernel_rfl) (by decide) rfl (by decide) (by decide) (Kept.refl _ _))
            (unfold execOp; simp only [List.map_toArray, List.map_cons, List.map_nil, e80, hI.kept.cell fB nB]; (try simp [go_sem, e80, hI.kept.cell fB nB]); try omega)
          · have e5 : a'.eval (.tmp 5) = .int .i64 (k : Int) := hI.old (by decide)
            refine wp_value (w' := wz) ?_ (AP.one hI (d := 82) (by kernel_rfl) (by decide) rfl (by decide) (by decide) (Kept.refl _ _))
            (unfold execOp; simp only [List.map_toArray, List.map_cons, List.map_nil, e5]; (try simp [go_sem, e5]); try omega)
          · have e81 : a'.eval (.tmp 81) = .slice (some ⟨g, off, none⟩) x.vlans.length n2 := AP.get hI (i := 16) (by decide) rfl (hall ⟨16, .data⟩ (by simp) rfl)
            have e82 : a'.eval (.tmp 82) = .int .i64 (k : Int) := AP.get hI (i := 17) (by decide) rfl (hall ⟨17, .data⟩ (by simp) rfl)
            refine wp_value (w' := wz) ?_ (AP.one hI (d := 83) (by kernel_rfl) (by decide) rfl (by decide) (by decide) (Kept.refl _ _))
            (unfold execOp; simp only [List.map_toArray, List.map_cons, List.map_nil, e81, e82, hlti]; (try simp [go_sem, e81, e82, hlti]); try omega)
          · have e83 : a'.eval (.tmp 83) = .pointer (some ⟨g, off + k * 3, none⟩) := AP.get hI (i := 18) (by decide) rfl (hall ⟨18, .data⟩ (by simp) rfl)
            refine wp_value (w' := wz) ?_ (AP.one hI (d := 84) (by kernel_rfl) (by decide) rfl (by decide) (by decide) (Kept.refl _ _))
            (unfold execOp; simp only [List.map_toArray, List.map_cons, List.map_nil, e83]; (try simp [go_sem, e83]); try omega)
          · have e84 : a'.eval (.tmp 84) = .pointer (some ⟨g, off + k * 3 + 2, none⟩) := AP.get hI (i := 19) (by decide) rfl (hall ⟨19, .data⟩ (by simp) rfl)
            refine wp_value (w' := wz) ?_ (AP.one hI (d := 85) (by kernel_rfl) (by decide) rfl (by decide) (by decide) (Kept.refl _ _))
            (unfold execOp; simp only [List.map_toArray, List.map_cons, List.map_nil, e84, hI.kept.cell f2 nG]; (try simp [go_sem, e84, hI.kept.cell f2 nG]); try omega)
          · have e85 : a'.eval (.tmp 85) = .int .u16 (intAt p 2) := AP.get hI (i := 20) (by decide) rfl (hall ⟨20, .data⟩ (by simp) rfl)
            refine wp_value (w' := wz) ?_ (AP.one hI (d := 86) (by kernel_rfl) (by decide) rfl (by decide) (by decide) (Kept.refl _ _))
            (unfold execOp; simp only [List.map_toArray, List.map_cons, List.map_nil, e85, wu322]; (try simp [go_sem, e85, wu322]); try omega)
          · have e72 : a'.eval (.tmp 72) = .int .u16 (intAt p 0) := AP.get hI (i := 7) (by decide) rfl (hall ⟨7, .data⟩ (by simp) rfl)
            have e79 : a'.eval (.tmp 79) = .int .u32 (intAt p 1) := AP.get hI (i := 14) (by decide) rfl (hall ⟨14, .data⟩ (by simp) rfl)
            have e86 : a'.eval (.tmp 86) = .int .u32 (intAt p 2) := AP.get hI (i := 21) (by decide) rfl (hall ⟨21, .data⟩ (by simp) rfl)
            refine wp_value (w' := wz) ?_ (AP.one hI (d := 87) (by kernel_rfl) (by decide) rfl (by decide) (by decide) (Kept.refl _ _))
            (unfold execOp; simp only [List.map_toArray, List.map_cons, List.map_nil, e72, e79, e86, vlP]; (try simp [go_sem, e72, e79, e86, vlP]); try omega)
          · have e87 : a'.eval (.tmp 87) = .agg (vlP p).toArray := AP.get hI (i := 22) (by decide) rfl (hall ⟨22, .data⟩ (by simp) rfl)
            refine wp_value (w' := wz.alloc (.cells (vlP p).toArray 75)) ?_ (AP.build hI (d := 88) (by kernel_rfl) (by decide) rfl (by decide) (by decide))
            unfold execOp
            simp only [List.map_toArray, List.map_cons, List.map_nil, e87]
            exact run_val (run_bsV p wz)
          · have e66 : a'.eval (.tmp 66) = V := AP.get hI (i := 1) (by decide) rfl (hall ⟨1, .data⟩ (by simp) rfl)
            exact AP.app hI (d := 89) (d1 := 66) (d2 := 88) (by kernel_rfl) (by decide) rfl rfl 58 rfl e66 hfi (hall ⟨1, .data⟩ (by simp) rfl) (by decide) rfl (hall ⟨23, .data⟩ (by simp) rfl) (by decide) (by decide) i0 (.agg #[.int .u16 0, .int .u32 0, .int .u32 0]) 12 Try.underlying58 HI.out HZ0.out HZ1.out HZ2.out rfl (by decide) rl r1 hn63 hnb hbB hvX hvl hXl
          · have e3 : a'.eval (.tmp 3) = .pointer (some ⟨X, 0, none⟩) := hI.old (by decide)
            refine wp_value (w' := wz) ?_ (AP.one hI (d := 90) (by kernel_rfl) (by decide) rfl (by decide) (by decide) (Kept.refl _ _))
            (unfold execOp; simp only [List.map_toArray, List.map_cons, List.map_nil, e3]; (try simp [go_sem, e3]); try omega)
          · have e90 : a'.eval (.tmp 90) = .pointer (some ⟨X, 7, none⟩) := AP.get hI (i := 25) (by decide) rfl (hall ⟨25, .data⟩ (by simp) rfl)
            obtain ⟨u, e89, hform, ⟨x0, hcl⟩, hfz, hst⟩ := AP.store hI (d2 := 89) (by decide) (by decide) rfl (hall ⟨24, .data⟩ (by simp) rfl) (by decide) hvXg hXl hol
            refine wp_skip (w' := wz.setCell ⟨X, 7, none⟩ u) ?_ (hst _)
            rcases hform with rfl | ⟨g9, c9, rfl⟩
            · (unfold execOp; simp only [List.map_toArray, List.map_cons, List.map_nil, e90, e89, hcl, hfz]; (try simp [go_sem, e90, e89, hcl, hfz]); try omega)
            · (unfold execOp; simp only [List.map_toArray, List.map_cons, List.map_nil, e90, e89, hcl, hfz]; (try simp [go_sem, e90, e89, hcl, hfz]); try omega)
        · intro f a' wz hf hI
          obtain ⟨u, hb9, ho9, _, hk9⟩ := AP.finish hI (hf 26 (by decide))
          have hN := hM.goV mok HP.out hb9 ho9 hk9 HB.out
          have HN := Lib.hid hN
          have ho := hI.out
          clear hI hf hb9 ho9 hk9 hN hM mok fr FR fB hown hdv hol hvX hvXg hvl nB nG hgw rl r1 hn63 hnb
          simp only [mdVD, List.foldl_cons, List.foldl_nil] at ho
          generalize a'.tmps.getD 65 undef = y65 at *
          generalize a'.tmps.getD 66 undef = y66 at *
          generalize a'.tmps.getD 67 undef = y67 at *
          generalize a'.tmps.getD 68 undef = y68 at *
          generalize a'.tmps.getD 69 undef = y69 at *
          generalize a'.tmps.getD 70 undef = y70 at *
          generalize a'.tmps.getD 71 undef = y71 at *
          generalize a'.tmps.getD 72 undef = y72 at *
          generalize a'.tmps.getD 73 undef = y73 at *
          generalize a'.tmps.getD 74 undef = y74 at *
          generalize a'.tmps.getD 75 undef = y75 at *
          generalize a'.tmps.getD 76 undef = y76 at *
          generalize a'.tmps.getD 77 undef = y77 at *
          generalize a'.tmps.getD 78 undef = y78 at *
          generalize a'.tmps.getD 79 undef = y79 at *
          generalize a'.tmps.getD 80 undef = y80 at *
          generalize a'.tmps.getD 81 undef = y81 at *
          generalize a'.tmps.getD 82 undef = y82 at *
          generalize a'.tmps.getD 83 undef = y83 at *
          generalize a'.tmps.getD 84 undef = y84 at *
          generalize a'.tmps.getD 85 undef = y85 at *
          generalize a'.tmps.getD 86 undef = y86 at *
          generalize a'.tmps.getD 87 undef = y87 at *
          generalize a'.tmps.getD 88 undef = y88 at *
          generalize a'.tmps.getD 89 undef = y89 at *
          generalize a'.tmps.getD 90 undef = y90 at *
          subst ho
          simp only [List.setIfInBounds_toArray, List.set_cons_zero, List.set_cons_succ]
          go_wp2_with fail
          exact ⟨⟨k + 1, by omega, by omega, by go_num, _, _, _, _, HN.out⟩, by simp [intOf]; omega⟩
      · have e16 : madeN x 16 k 0 0 = madeN x 16 16 0 0 := by
          unfold madeN
          congr 2
          rcases (by omega : k = 16 ∨ x.vlans.length = k) with h | h
          · rw [h]
          · rw [List.take_of_length_le (by omega), List.take_of_length_le (by omega)]
        have E16 := Lib.hid e16
        clear e16
        rcases (show (x.vlans.length : Int) ≤ (k : Int) ∨ ((k : Int) < (x.vlans.length : Int) ∧ (16 : Int) ≤ (k : Int)) by omega) with hex | ⟨hex, hex2⟩
        · clear hlt
          go_wp2_with fail
          go_meet
          exact ⟨k, rfl, P, V, S, F, by have := HMr.out; rwa [E16.out] at this⟩
        · clear hlt
          go_wp2_with fail
          go_meet
          exact ⟨k, rfl, P, V, S, F, by have := HMr.out; rwa [E16.out] at this⟩
  case rest =>
  clear HE
  rename World => wc1
  obtain ⟨kc, rfl, HMa⟩ := hcut
  have hE := HMa
  clear HMa
  have HE := Lib.hid hE
  clear hE
  go_upto_block 4 with (fail)
  go_cut [6] (fun s wx => ∃ k : Nat, s = .int .i64 k ∧ ∃ P V S F, MadeAt w xc B X (madeN x 16 16 16 0) P V S F wx)
  case first =>
    go_wp2_with fail
    go_loopw [6] (fun i wr => ∃ k : Nat, k ≤ 16 ∧ k ≤ x.stat.length ∧ i = .int .i64 k ∧ ∃ P V S F, MadeAt w xc B X (madeN x 16 16 k 0) P V S F wr) (fun i _ => 16 - (intOf i).toNat)
    case atStart =>
      obtain ⟨P, V, S, F, hM⟩ := HE.out
      exact ⟨0, by omega, Nat.zero_le _, rfl, P, V, S, F, hM⟩
    case round =>
      obtain ⟨k, hk16, hkn, rfl, P, V, S, F, hM⟩ := hrel
      have fB : wr.cell? ⟨B, 9, none⟩ = some (.slice A3 x.stat.length n3) := by
        rw [hM.arg.cell, HX9.out, ← E3.out]
        rfl
      have hnl : x.stat.length ≤ 9223372036854775807 := by have := HOK.out.l3; unfold maxLen at this; exact this
      have HMr := Lib.hid hM
      clear hM
      by_cases hlt : k < x.stat.length ∧ k < 16
      · obtain ⟨hlt1, hlt2⟩ := hlt
        have hlti : (k : Int) < (x.stat.length : Int) := by omega
        have hlt2' : (k : Int) < 16 := by omega
        obtain ⟨p, hp⟩ : ∃ p, x.stat[k]? = some p := ⟨_, List.getElem?_eq_getElem hlt1⟩
        have hfp := fitsAll_get HOK.out.stat hp
        have rr := R3.out.kept HMr.out.kept
        obtain ⟨g, off, rfl, fr⟩ := rr.get hp
        have hu16 := HOK.out.s16 p (List.mem_of_getElem? hp)
        have f0 : wr.cell? ⟨g, off + k * 3, none⟩ = some (.int .u16 (intAt p 0)) := fr 0 _ (int_at hfp rfl)
        have bd0 := hu16 0 (by decide)
        have f1 : wr.cell? ⟨g, off + k * 3 + 1, none⟩ = some (.int .u16 (intAt p 1)) := fr 1 _ (int_at hfp rfl)
        have bd1 := hu16 1 (by decide)
        have f2 : wr.cell? ⟨g, off + k * 3 + 2, none⟩ = some (.int .u16 (intAt p 2)) := fr 2 _ (int_at hfp rfl)
        have bd2 := hu16 2 (by decide)
        have wu641 : IntKind.u64.wrap (intAt p 1) = intAt p 1 := by rw [IntKind.wrap_u64]; omega
        have wu322 : IntKind.u32.wrap (intAt p 2) = intAt p 2 := by rw [IntKind.wrap_u32]; omega
        have HP := Lib.hid hp
        have FR := Lib.hid fr
        clear hp rr
        go_wp2_with fail
        have hM := HMr.out
        have mok := madeN_ok HOK.out 16 16 k 0 (by omega) (by omega) (by omega) (by omega)
        have fr := FR.out
        obtain ⟨i0, hi0, hz0, hz1, hz2⟩ := info_parts infoS
        have HI := Lib.hid hi0
        have HZ0 := Lib.hid hz0
        have HZ1 := Lib.hid hz1
        have HZ2 := Lib.hid hz2
        have hne := hM.ne
        have hXl : X < wr.heap.size := hM.blk.lt
        have hbB : B ≤ wr.heap.size := by omega
        have hdv := recC_8 mok P V S F
        have hol : 8 < (recC (madeN x 16 16 k 0) P V S F).length := by rw [recC_len mok]; decide
        have hown : wr.ownsRow B 81 8 S k (((x.stat.take k).map stP).flatten) := by
          have := hM.own.stat
          have e : (madeN x 16 16 k 0).stat.length = k := take_map_len hkn
          rw [e] at this
          exact this
        have hvX : S.ownBlock ≠ some X := owns_ne hown hM.blk (by decide)
        have hvXg : ∀ g, S.ownBlock = some g → g ≠ X := fun g h e => hvX (by rw [h, e])
        have hvl : ∀ g, S.ownBlock = some g → g < wr.heap.size := fun g h => (hown.lt g h).2
        have nB : ¬ apK X S B := apK_ne (by omega) (owns_ne hown hM.arg (by decide))
        have hgw : g < w.heap.size := by
          have h0 := (R3.out.at HP.out) 0 _ (List.getElem?_eq_getElem (by rw [fits_length hfp]; decide))
          exact World.block_lt_of_cell? w _ h0
        have hBw := HB.out
        have nG : ¬ apK X S g := fun e => by
          rcases e with e | e
          · omega
          · have := (hown.lt g e).1; omega
        have rl : (stP p).length = 8 := fits_length (stP_fits p)
        have r1 := one_fits (stP_fits p)
        have hn63 : k + 1 ≤ maxLen := by unfold maxLen; omega
        have hnb : (k + 1) * 12 ≤ 140737488355328 := by omega
        clear hi0 hz0 hz1 hz2
        refine wp_region_inv (by kernel_rfl) (by kernel_rfl) (AP _ mdSD (mdSV p B X g off n3 k x.stat.length S) wr X 8 63 (recC (madeN x 16 16 k 0) P V S F) B 81 8 S k (((x.stat.take k).map stP).flatten) (stP p) 1 25 26 28) (AP.start hM.blk hdv hown) ?_ ?_
        · intro f a' wz hI i o ho hfi hall
          have hi : i < 29 := (Array.getElem?_eq_some_iff.1 ho).1
          rcases (by omega : i = 0 ∨ i = 1 ∨ i = 2 ∨ i = 3 ∨ i = 4 ∨ i = 5 ∨ i = 6 ∨ i = 7 ∨ i = 8 ∨ i = 9 ∨ i = 10 ∨ i = 11 ∨ i = 12 ∨ i = 13 ∨ i = 14 ∨ i = 15 ∨ i = 16 ∨ i = 17 ∨ i = 18 ∨ i = 19 ∨ i = 20 ∨ i = 21 ∨ i = 22 ∨ i = 23 ∨ i = 24 ∨ i = 25 ∨ i = 26 ∨ i = 27 ∨ i = 28) with rfl | rfl | rfl | rfl | rfl | rfl | rfl | rfl | rfl | rfl | rfl | rfl | rfl | rfl | rfl | rfl | rfl | rfl | rfl | rfl | rfl | rfl | rfl | rfl | rfl | rfl | rfl | rfl | rfl
          all_goals
            simp only [List.getElem?_toArray, List.getElem?_cons_zero, List.getElem?_cons_succ, Option.some.injEq] at ho
            subst ho
          · have e3 : a'.eval (.tmp 3) = .pointer (some ⟨X, 0, none⟩) := hI.old (by decide)
            refine wp_value (w' := wz) ?_ (AP.one hI (d := 102) (by kernel_rfl) (by decide) rfl (by decide) (by decide) (Kept.refl _ _))
            (unfold execOp; simp only [List.map_toArray, List.map_cons, List.map_nil, e3]; (try simp [go_sem, e3]); try omega)
          · have e102 : a'.eval (.tmp 102) = .pointer (some ⟨X, 8, none⟩) := AP.get hI (i := 0) (by decide) rfl (hall ⟨0, .data⟩ (by simp) rfl)
            have hc := hI.cell hfi hdv
            refine wp_value (w' := wz) ?_ (AP.one hI (d := 103) (by kernel_rfl) (by decide) rfl (by decide) (by decide) (Kept.refl _ _))
            (unfold execOp; simp only [List.map_toArray, List.map_cons, List.map_nil, e102, hc]; (try simp [go_sem, e102, hc]); try omega)
          · have e1 : a'.eval (.tmp 1) = .pointer (some ⟨B, 0, none⟩) := hI.old (by decide)
            refine wp_value (w' := wz) ?_ (AP.one hI (d := 104) (by kernel_rfl) (by decide) rfl (by decide) (by decide) (Kept.refl _ _))
            (unfold execOp; simp only [List.map_toArray, List.map_cons, List.map_nil, e1]; (try simp [go_sem, e1]); try omega)
          · have e104 : a'.eval (.tmp 104) = .pointer (some ⟨B, 9, none⟩) := AP.get hI (i := 2) (by decide) rfl (hall ⟨2, .data⟩ (by simp) rfl)
            refine wp_value (w' := wz) ?_ (AP.one hI (d := 105) (by kernel_rfl) (by decide) rfl (by decide) (by decide) (Kept.refl _ _))
            (unfold execOp; simp only [List.map_toArray, List.map_cons, List.map_nil, e104, hI.kept.cell fB nB]; (try simp [go_sem, e104, hI.kept.cell fB nB]); try omega)
          · have e6 : a'.eval (.tmp 6) = .int .i64 (k : Int) := hI.old (by decide)
            refine wp_value (w' := wz) ?_ (AP.one hI (d := 106) (by kernel_rfl) (by decide) rfl (by decide) (by decide) (Kept.refl _ _))
            (unfold execOp; simp only [List.map_toArray, List.map_cons, List.map_nil, e6]; (try simp [go_sem, e6]); try omega)
          · have e105 : a'.eval (.tmp 105) = .slice (some ⟨g, off, none⟩) x.stat.length n3 := AP.get hI (i := 3) (by decide) rfl (hall ⟨3, .data⟩ (by simp) rfl)
            have e106 : a'.eval (.tmp 106) = .int .i64 (k : Int) := AP.get hI (i := 4) (by decide) rfl (hall ⟨4, .data⟩ (by simp) rfl)
            refine wp_value (w' := wz) ?_ (AP.one hI (d := 107) (by kernel_rfl) (by decide) rfl (by decide) (by decide) (Kept.refl _ _))
            (unfold execOp; simp only [List.map_toArray, List.map_cons, List.map_nil, e105, e106, hlti]; (try simp [go_sem, e105, e106, hlti]); try omega)
          · have e107 : a'.eval (.tmp 107) = .pointer (some ⟨g, off + k * 3, none⟩) := AP.get hI (i := 5) (by decide) rfl (hall ⟨5, .data⟩ (by simp) rfl)
            refine wp_value (w' := wz) ?_ (AP.one hI (d := 108) (by kernel_rfl) (by decide) rfl (by decide) (by decide) (Kept.refl _ _))
            (unfold execOp; simp only [List.map_toArray, List.map_cons, List.map_nil, e107]; (try simp [go_sem, e107]); try omega)
          · have e108 : a'.eval (.tmp 108) = .pointer (some ⟨g, off + k * 3, none⟩) := AP.get hI (i := 6) (by decide) rfl (hall ⟨6, .data⟩ (by simp) rfl)
            refine wp_value (w' := wz) ?_ (AP.one hI (d := 109) (by kernel_rfl) (by decide) rfl (by decide) (by decide) (Kept.refl _ _))
            (unfold execOp; simp only [List.map_toArray, List.map_cons, List.map_nil, e108, hI.kept.cell f0 nG]; (try simp [go_sem, e108, hI.kept.cell f0 nG]); try omega)
          · have e1 : a'.eval (.tmp 1) = .pointer (some ⟨B, 0, none⟩) := hI.old (by decide)
            refine wp_value (w' := wz) ?_ (AP.one hI (d := 110) (by kernel_rfl) (by decide) rfl (by decide) (by decide) (Kept.refl _ _))
            (unfold execOp; simp only [List.map_toArray, List.map_cons, List.map_nil, e1]; (try simp [go_sem, e1]); try omega)
          · have e110 : a'.eval (.tmp 110) = .pointer (some ⟨B, 9, none⟩) := AP.get hI (i := 8) (by decide) rfl (hall ⟨8, .data⟩ (by simp) rfl)
            refine wp_value (w' := wz) ?_ (AP.one hI (d := 111) (by kernel_rfl) (by decide) rfl (by decide) (by decide) (Kept.refl _ _))
            (unfold execOp; simp only [List.map_toArray, List.map_cons, List.map_nil, e110, hI.kept.cell fB nB]; (try simp [go_sem, e110, hI.kept.cell fB nB]); try omega)
          · have e6 : a'.eval (.tmp 6) = .int .i64 (k : Int) := hI.old (by decide)
            refine wp_value (w' := wz) ?_ (AP.one hI (d := 112) (by kernel_rfl) (by decide) rfl (by decide) (by decide) (Kept.refl _ _))
            (unfold execOp; simp only [List.map_toArray, List.map_cons, List.map_nil, e6]; (try simp [go_sem, e6]); try omega)
          · have e111 : a'.eval (.tmp 111) = .slice (some ⟨g, off, none⟩) x.stat.length n3 := AP.get hI (i := 9) (by decide) rfl (hall ⟨9, .data⟩ (by simp) rfl)
            have e112 : a'.eval (.tmp 112) = .int .i64 (k : Int) := AP.get hI (i := 10) (by decide) rfl (hall ⟨10, .data⟩ (by simp) rfl)
            refine wp_value (w' := wz) ?_ (AP.one hI (d := 113) (by kernel_rfl) (by decide) rfl (by decide) (by decide) (Kept.refl _ _))
            (unfold execOp; simp only [List.map_toArray, List.map_cons, List.map_nil, e111, e112, hlti]; (try simp [go_sem, e111, e112, hlti]); try omega)
          · have e113 : a'.eval (.tmp 113) = .pointer (some ⟨g, off + k * 3, none⟩) := AP.get hI (i := 11) (by decide) rfl (hall ⟨11, .data⟩ (by simp) rfl)
            refine wp_value (w' := wz) ?_ (AP.one hI (d := 114) (by kernel_rfl) (by decide) rfl (by decide) (by decide) (Kept.refl _ _))
            (unfold execOp; simp only [List.map_toArray, List.map_cons, List.map_nil, e113]; (try simp [go_sem, e113]); try omega)
          · have e114 : a'.eval (.tmp 114) = .pointer (some ⟨g, off + k * 3 + 1, none⟩) := AP.get hI (i := 12) (by decide) rfl (hall ⟨12, .data⟩ (by simp) rfl)
            refine wp_value (w' := wz) ?_ (AP.one hI (d := 115) (by kernel_rfl) (by decide) rfl (by decide) (by decide) (Kept.refl _ _))
            (unfold execOp; simp only [List.map_toArray, List.map_cons, List.map_nil, e114, hI.kept.cell f1 nG]; (try simp [go_sem, e114, hI.kept.cell f1 nG]); try omega)
          · have e115 : a'.eval (.tmp 115) = .int .u16 (intAt p 1) := AP.get hI (i := 13) (by decide) rfl (hall ⟨13, .data⟩ (by simp) rfl)
            refine wp_value (w' := wz) ?_ (AP.one hI (d := 116) (by kernel_rfl) (by decide) rfl (by decide) (by decide) (Kept.refl _ _))
            (unfold execOp; simp only [List.map_toArray, List.map_cons, List.map_nil, e115, wu641]; (try simp [go_sem, e115, wu641]); try omega)
          · have e116 : a'.eval (.tmp 116) = .int .u64 (intAt p 1) := AP.get hI (i := 14) (by decide) rfl (hall ⟨14, .data⟩ (by simp) rfl)
            refine wp_go Try.func51 rfl rfl (args := #[.int .u64 (intAt p 1)]) (by simp only [List.map_toArray, List.map_cons, List.map_nil, e116]) ((fromInt_calls (intAt p 1) wz (by omega)).mono ?_)
            rintro e w' ⟨rfl, hk⟩
            exact ⟨_, rfl, AP.one hI (d := 117) (by kernel_rfl) (by decide) rfl (by decide) (by decide) hk⟩
          · have e109 : a'.eval (.tmp 109) = .int .u16 (intAt p 0) := AP.get hI (i := 7) (by decide) rfl (hall ⟨7, .data⟩ (by simp) rfl)
            have e117 : a'.eval (.tmp 117) = .agg (macC (intAt p 1)).toArray := AP.get hI (i := 15) (by decide) rfl (hall ⟨15, .data⟩ (by simp) rfl)
            refine wp_value (w' := wz) ?_ (AP.one hI (d := 118) (by kernel_rfl) (by decide) rfl (by decide) (by decide) (Kept.refl _ _))
            unfold execOp
            simp only [List.map_toArray, List.map_cons, List.map_nil, e109, e117]
            exact run_val (run_buildKey _ _ _)
          · have e1 : a'.eval (.tmp 1) = .pointer (some ⟨B, 0, none⟩) := hI.old (by decide)
            refine wp_value (w' := wz) ?_ (AP.one hI (d := 119) (by kernel_rfl) (by decide) rfl (by decide) (by decide) (Kept.refl _ _))
            (unfold execOp; simp only [List.map_toArray, List.map_cons, List.map_nil, e1]; (try simp [go_sem, e1]); try omega)
          · have e119 : a'.eval (.tmp 119) = .pointer (some ⟨B, 9, none⟩) := AP.get hI (i := 17) (by decide) rfl (hall ⟨17, .data⟩ (by simp) rfl)
            refine wp_value (w' := wz) ?_ (AP.one hI (d := 120) (by kernel_rfl) (by decide) rfl (by decide) (by decide) (Kept.refl _ _))
            (unfold execOp; simp only [List.map_toArray, List.map_cons, List.map_nil, e119, hI.kept.cell fB nB]; (try simp [go_sem, e119, hI.kept.cell fB nB]); try omega)
          · have e6 : a'.eval (.tmp 6) = .int .i64 (k : Int) := hI.old (by decide)
            refine wp_value (w' := wz) ?_ (AP.one hI (d := 121) (by kernel_rfl) (by decide) rfl (by decide) (by decide) (Kept.refl _ _))
            (unfold execOp; simp only [List.map_toArray, List.map_cons, List.map_nil, e6]; (try simp [go_sem, e6]); try omega)
          · have e120 : a'.eval (.tmp 120) = .slice (some ⟨g, off, none⟩) x.stat.length n3 := AP.get hI (i := 18) (by decide) rfl (hall ⟨18, .data⟩ (by simp) rfl)
            have e121 : a'.eval (.tmp 121) = .int .i64 (k : Int) := AP.get hI (i := 19) (by decide) rfl (hall ⟨19, .data⟩ (by simp) rfl)
            refine wp_value (w' := wz) ?_ (AP.one hI (d := 122) (by kernel_rfl) (by decide) rfl (by decide) (by decide) (Kept.refl _ _))
            (unfold execOp; simp only [List.map_toArray, List.map_cons, List.map_nil, e120, e121, hlti]; (try simp [go_sem, e120, e121, hlti]); try omega)
          · have e122 : a'.eval (.tmp 122) = .pointer (some ⟨g, off + k * 3, none⟩) := AP.get hI (i := 20) (by decide) rfl (hall ⟨20, .data⟩ (by simp) rfl)
            refine wp_value (w' := wz) ?_ (AP.one hI (d := 123) (by kernel_rfl) (by decide) rfl (by decide) (by decide) (Kept.refl _ _))
            (unfold execOp; simp only [List.map_toArray, List.map_cons, List.map_nil, e122]; (try simp [go_sem, e122]); try omega)
          · have e123 : a'.eval (.tmp 123) = .pointer (some ⟨g, off + k * 3 + 2, none⟩) := AP.get hI (i := 21) (by decide) rfl (hall ⟨21, .data⟩ (by simp) rfl)
            refine wp_value (w' := wz) ?_ (AP.one hI (d := 124) (by kernel_rfl) (by decide) rfl (by decide) (by decide) (Kept.refl _ _))
            (unfold execOp; simp only [List.map_toArray, List.map_cons, List.map_nil, e123, hI.kept.cell f2 nG]; (try simp [go_sem, e123, hI.kept.cell f2 nG]); try omega)
          · have e124 : a'.eval (.tmp 124) = .int .u16 (intAt p 2) := AP.get hI (i := 22) (by decide) rfl (hall ⟨22, .data⟩ (by simp) rfl)
            refine wp_value (w' := wz) ?_ (AP.one hI (d := 125) (by kernel_rfl) (by decide) rfl (by decide) (by decide) (Kept.refl _ _))
            (unfold execOp; simp only [List.map_toArray, List.map_cons, List.map_nil, e124, wu322]; (try simp [go_sem, e124, wu322]); try omega)
          · have e118 : a'.eval (.tmp 118) = .agg (keyC (intAt p 0) (intAt p 1)).toArray := AP.get hI (i := 16) (by decide) rfl (hall ⟨16, .data⟩ (by simp) rfl)
            have e125 : a'.eval (.tmp 125) = .int .u32 (intAt p 2) := AP.get hI (i := 23) (by decide) rfl (hall ⟨23, .data⟩ (by simp) rfl)
            refine wp_value (w' := wz) ?_ (AP.one hI (d := 126) (by kernel_rfl) (by decide) rfl (by decide) (by decide) (Kept.refl _ _))
            unfold execOp
            simp only [List.map_toArray, List.map_cons, List.map_nil, e118, e125]
            exact run_val (run_buildSt _ _ _ _)
          · have e126 : a'.eval (.tmp 126) = .agg (stP p).toArray := AP.get hI (i := 24) (by decide) rfl (hall ⟨24, .data⟩ (by simp) rfl)
            refine wp_value (w' := wz.alloc (.cells (stP p).toArray 81)) ?_ (AP.build hI (d := 127) (by kernel_rfl) (by decide) rfl (by decide) (by decide))
            unfold execOp
            simp only [List.map_toArray, List.map_cons, List.map_nil, e126]
            exact run_val (run_bsS p wz)
          · have e103 : a'.eval (.tmp 103) = S := AP.get hI (i := 1) (by decide) rfl (hall ⟨1, .data⟩ (by simp) rfl)
            exact AP.app hI (d := 128) (d1 := 103) (d2 := 127) (by kernel_rfl) (by decide) rfl rfl 59 rfl e103 hfi (hall ⟨1, .data⟩ (by simp) rfl) (by decide) rfl (hall ⟨25, .data⟩ (by simp) rfl) (by decide) (by decide) i0 (.agg #[.int .u16 0, .int .u8 0, .int .u8 0, .int .u8 0, .int .u8 0, .int .u8 0, .int .u8 0, .int .u32 0]) 12 Try.underlying59 HI.out HZ0.out HZ1.out HZ2.out rfl (by decide) rl r1 hn63 hnb hbB hvX hvl hXl
          · have e3 : a'.eval (.tmp 3) = .pointer (some ⟨X, 0, none⟩) := hI.old (by decide)
            refine wp_value (w' := wz) ?_ (AP.one hI (d := 129) (by kernel_rfl) (by decide) rfl (by decide) (by decide) (Kept.refl _ _))
            (unfold execOp; simp only [List.map_toArray, List.map_cons, List.map_nil, e3]; (try simp [go_sem, e3]); try omega)
          · have e129 : a'.eval (.tmp 129) = .pointer (some ⟨X, 8, none⟩) := AP.get hI (i := 27) (by decide) rfl (hall ⟨27, .data⟩ (by simp) rfl)
            obtain ⟨u, e128, hform, ⟨x0, hcl⟩, hfz, hst⟩ := AP.store hI (d2 := 128) (by decide) (by decide) rfl (hall ⟨26, .data⟩ (by simp) rfl) (by decide) hvXg hXl hol
            refine wp_skip (w' := wz.setCell ⟨X, 8, none⟩ u) ?_ (hst _)
            rcases hform with rfl | ⟨g9, c9, rfl⟩
            · (unfold execOp; simp only [List.map_toArray, List.map_cons, List.map_nil, e129, e128, hcl, hfz]; (try simp [go_sem, e129, e128, hcl, hfz]); try omega)
            · (unfold execOp; simp only [List.map_toArray, List.map_cons, List.map_nil, e129, e128, hcl, hfz]; (try simp [go_sem, e129, e128, hcl, hfz]); try omega)
        · intro f a' wz hf hI
          obtain ⟨u, hb9, ho9, _, hk9⟩ := AP.finish hI (hf 28 (by decide))
          have hN := hM.goS mok HP.out hb9 ho9 hk9 HB.out
          have HN := Lib.hid hN
          have ho := hI.out
          clear hI hf hb9 ho9 hk9 hN hM mok fr FR fB hown hdv hol hvX hvXg hvl nB nG hgw rl r1 hn63 hnb
          simp only [mdSD, List.foldl_cons, List.foldl_nil] at ho
          generalize a'.tmps.getD 102 undef = y102 at *
          generalize a'.tmps.getD 103 undef = y103 at *
          generalize a'.tmps.getD 104 undef = y104 at *
          generalize a'.tmps.getD 105 undef = y105 at *
          generalize a'.tmps.getD 106 undef = y106 at *
          generalize a'.tmps.getD 107 undef = y107 at *
          generalize a'.tmps.getD 108 undef = y108 at *
          generalize a'.tmps.getD 109 undef = y109 at *
          generalize a'.tmps.getD 110 undef = y110 at *
          generalize a'.tmps.getD 111 undef = y111 at *
          generalize a'.tmps.getD 112 undef = y112 at *
          generalize a'.tmps.getD 113 undef = y113 at *
          generalize a'.tmps.getD 114 undef = y114 at *
          generalize a'.tmps.getD 115 undef = y115 at *
          generalize a'.tmps.getD 116 undef = y116 at *
          generalize a'.tmps.getD 117 undef = y117 at *
          generalize a'.tmps.getD 118 undef = y118 at *
          generalize a'.tmps.getD 119 undef = y119 at *
          generalize a'.tmps.getD 120 undef = y120 at *
          generalize a'.tmps.getD 121 undef = y121 at *
          generalize a'.tmps.getD 122 undef = y122 at *
          generalize a'.tmps.getD 123 undef = y123 at *
          generalize a'.tmps.getD 124 undef = y124 at *
          generalize a'.tmps.getD 125 undef = y125 at *
          generalize a'.tmps.getD 126 undef = y126 at *
          generalize a'.tmps.getD 127 undef = y127 at *
          generalize a'.tmps.getD 128 undef = y128 at *
          generalize a'.tmps.getD 129 undef = y129 at *
          subst ho
          simp only [List.setIfInBounds_toArray, List.set_cons_zero, List.set_cons_succ]
          go_wp2_with fail
          exact ⟨⟨k + 1, by omega, by omega, by go_num, _, _, _, _, HN.out⟩, by simp [intOf]; omega⟩
      · have e16 : madeN x 16 16 k 0 = madeN x 16 16 16 0 := by
          unfold madeN
          congr 2
          rcases (by omega : k = 16 ∨ x.stat.length = k) with h | h
          · rw [h]
          · rw [List.take_of_length_le (by omega), List.take_of_length_le (by omega)]
        have E16 := Lib.hid e16
        clear e16
        rcases (show (x.stat.length : Int) ≤ (k : Int) ∨ ((k : Int) < (x.stat.length : Int) ∧ (16 : Int) ≤ (k : Int)) by omega) with hex | ⟨hex, hex2⟩
        · clear hlt
          go_wp2_with fail
          go_meet
          exact ⟨k, rfl, P, V, S, F, by have := HMr.out; rwa [E16.out] at this⟩
        · clear hlt
          go_wp2_with fail
          go_meet
          exact ⟨k, rfl, P, V, S, F, by have := HMr.out; rwa [E16.out] at this⟩
  case rest =>
  clear HE
  rename World => wc2
  obtain ⟨kc, rfl, HMa⟩ := hcut
  have hE := HMa
  clear HMa
  have HE := Lib.hid hE
  clear hE
  go_upto_block 6 with (fail)
  go_cut [7] (fun s wx => ∃ k : Nat, s = .int .i64 k ∧ ∃ P V S F, MadeAt w xc B X (madeN x 16 16 16 64) P V S F wx)
  case first =>
    go_wp2_with fail
    go_loopw [7] (fun i wr => ∃ k : Nat, k ≤ 64 ∧ k ≤ x.fdb.length ∧ i = .int .i64 k ∧ ∃ P V S F, MadeAt w xc B X (madeN x 16 16 16 k) P V S F wr) (fun i _ => 64 - (intOf i).toNat)
    case atStart =>
      obtain ⟨P, V, S, F, hM⟩ := HE.out
      exact ⟨0, by omega, Nat.zero_le _, rfl, P, V, S, F, hM⟩
    case round =>
      obtain ⟨k, hk16, hkn, rfl, P, V, S, F, hM⟩ := hrel
      have fB : wr.cell? ⟨B, 10, none⟩ = some (.slice A4 x.fdb.length n4) := by
        rw [hM.arg.cell, HX10.out, ← E4.out]
        rfl
      have hnl : x.fdb.length ≤ 9223372036854775807 := by have := HOK.out.l4; unfold maxLen at this; exact this
      have HMr := Lib.hid hM
      clear hM
      by_cases hlt : k < x.fdb.length ∧ k < 64
      · obtain ⟨hlt1, hlt2⟩ := hlt
        have hlti : (k : Int) < (x.fdb.length : Int) := by omega
        have hlt2' : (k : Int) < 64 := by omega
        obtain ⟨p, hp⟩ : ∃ p, x.fdb[k]? = some p := ⟨_, List.getElem?_eq_getElem hlt1⟩
        have hfp := fitsAll_get HOK.out.fdb hp
        have rr := R4.out.kept HMr.out.kept
        obtain ⟨g, off, rfl, fr⟩ := rr.get hp
        have hu16 := HOK.out.f16 p (List.mem_of_getElem? hp)
        have f0 : wr.cell? ⟨g, off + k * 4, none⟩ = some (.int .u16 (intAt p 0)) := fr 0 _ (int_at hfp rfl)
        have bd0 := hu16 0 (by decide)
        have f1 : wr.cell? ⟨g, off + k * 4 + 1, none⟩ = some (.int .u16 (intAt p 1)) := fr 1 _ (int_at hfp rfl)
        have bd1 := hu16 1 (by decide)
        have f2 : wr.cell? ⟨g, off + k * 4 + 2, none⟩ = some (.int .u16 (intAt p 2)) := fr 2 _ (int_at hfp rfl)
        have bd2 := hu16 2 (by decide)
        have f3 : wr.cell? ⟨g, off + k * 4 + 3, none⟩ = some (.int .u16 (intAt p 3)) := fr 3 _ (int_at hfp rfl)
        have bd3 := hu16 3 (by decide)
        have wu641 : IntKind.u64.wrap (intAt p 1) = intAt p 1 := by rw [IntKind.wrap_u64]; omega
        have wi642 : IntKind.i64.wrap (intAt p 2) = intAt p 2 := by rw [IntKind.wrap_i64]; omega
        have wi643 : IntKind.i64.wrap (intAt p 3) = intAt p 3 := by rw [IntKind.wrap_i64]; omega
        have HP := Lib.hid hp
        have FR := Lib.hid fr
        clear hp rr
        go_wp2_with fail
        have hM := HMr.out
        have mok := madeN_ok HOK.out 16 16 16 k (by omega) (by omega) (by omega) (by omega)
        have fr := FR.out
        obtain ⟨i0, hi0, hz0, hz1, hz2⟩ := info_parts infoF
        have HI := Lib.hid hi0
        have HZ0 := Lib.hid hz0
        have HZ1 := Lib.hid hz1
        have HZ2 := Lib.hid hz2
        have hne := hM.ne
        have hXl : X < wr.heap.size := hM.blk.lt
        have hbB : B ≤ wr.heap.size := by omega
        have hdv := recC_9 mok P V S F
        have hol : 9 < (recC (madeN x 16 16 16 k) P V S F).length := by rw [recC_len mok]; decide
        have hown : wr.ownsRow B 85 9 F k (((x.fdb.take k).map fdP).flatten) := by
          have := hM.own.fdb
          have e : (madeN x 16 16 16 k).fdb.length = k := take_map_len hkn
          rw [e] at this
          exact this
        have hvX : F.ownBlock ≠ some X := owns_ne hown hM.blk (by decide)
        have hvXg : ∀ g, F.ownBlock = some g → g ≠ X := fun g h e => hvX (by rw [h, e])
        have hvl : ∀ g, F.ownBlock = some g → g < wr.heap.size := fun g h => (hown.lt g h).2
        have nB : ¬ apK X F B := apK_ne (by omega) (owns_ne hown hM.arg (by decide))
        have hgw : g < w.heap.size := by
          have h0 := (R4.out.at HP.out) 0 _ (List.getElem?_eq_getElem (by rw [fits_length hfp]; decide))
          exact World.block_lt_of_cell? w _ h0
        have hBw := HB.out
        have nG : ¬ apK X F g := fun e => by
          rcases e with e | e
          · omega
          · have := (hown.lt g e).1; omega
        have rl : (fdP p).length = 9 := fits_length (fdP_fits p)
        have r1 := one_fits (fdP_fits p)
        have hn63 : k + 1 ≤ maxLen := by unfold maxLen; omega
        have hnb : (k + 1) * 24 ≤ 140737488355328 := by omega
        clear hi0 hz0 hz1 hz2
        refine wp_region_inv (by kernel_rfl) (by kernel_rfl) (AP _ mdFD (mdFV p B X g off n4 k x.fdb.length F) wr X 9 63 (recC (madeN x 16 16 16 k) P V S F) B 85 9 F k (((x.fdb.take k).map fdP).flatten) (fdP p) 1 32 33 35) (AP.start hM.blk hdv hown) ?_ ?_
        · intro f a' wz hI i o ho hfi hall
          have hi : i < 36 := (Array.getElem?_eq_some_iff.1 ho).1
          rcases (by omega : i = 0 ∨ i = 1 ∨ i = 2 ∨ i = 3 ∨ i = 4 ∨ i = 5 ∨ i = 6 ∨ i = 7 ∨ i = 8 ∨ i = 9 ∨ i = 10 ∨ i = 11 ∨ i = 12 ∨ i = 13 ∨ i = 14 ∨ i = 15 ∨ i = 16 ∨ i = 17 ∨ i = 18 ∨ i = 19 ∨ i = 20 ∨ i = 21 ∨ i = 22 ∨ i = 23 ∨ i = 24 ∨ i = 25 ∨ i = 26 ∨ i = 27 ∨ i = 28 ∨ i = 29 ∨ i = 30 ∨ i = 31 ∨ i = 32 ∨ i = 33 ∨ i = 34 ∨ i = 35) with rfl | rfl | rfl | rfl | rfl | rfl | rfl | rfl | rfl | rfl | rfl | rfl | rfl | rfl | rfl | rfl | rfl | rfl | rfl | rfl | rfl | rfl | rfl | rfl | rfl | rfl | rfl | rfl | rfl | rfl | rfl | rfl | rfl | rfl | rfl | rfl
          all_goals
            simp only [List.getElem?_toArray, List.getElem?_cons_zero, List.getElem?_cons_succ, Option.some.injEq] at ho
            subst ho
          · have e3 : a'.eval (.tmp 3) = .pointer (some ⟨X, 0, none⟩) := hI.old (by decide)
            refine wp_value (w' := wz) ?_ (AP.one hI (d := 141) (by kernel_rfl) (by decide) rfl (by decide) (by decide) (Kept.refl _ _))
            (unfold execOp; simp only [List.map_toArray, List.map_cons, List.map_nil, e3]; (try simp [go_sem, e3]); try omega)
          · have e141 : a'.eval (.tmp 141) = .pointer (some ⟨X, 9, none⟩) := AP.get hI (i := 0) (by decide) rfl (hall ⟨0, .data⟩ (by simp) rfl)
            have hc := hI.cell hfi hdv
            refine wp_value (w' := wz) ?_ (AP.one hI (d := 142) (by kernel_rfl) (by decide) rfl (by decide) (by decide) (Kept.refl _ _))
            (unfold execOp; simp only [List.map_toArray, List.map_cons, List.map_nil, e141, hc]; (try simp [go_sem, e141, hc]); try omega)
          · have e1 : a'.eval (.tmp 1) = .pointer (some ⟨B, 0, none⟩) := hI.old (by decide)
            refine wp_value (w' := wz) ?_ (AP.one hI (d := 143) (by kernel_rfl) (by decide) rfl (by decide) (by decide) (Kept.refl _ _))
            (unfold execOp; simp only [List.map_toArray, List.map_cons, List.map_nil, e1]; (try simp [go_sem, e1]); try omega)
          · have e143 : a'.eval (.tmp 143) = .pointer (some ⟨B, 10, none⟩) := AP.get hI (i := 2) (by decide) rfl (hall ⟨2, .data⟩ (by simp) rfl)
            refine wp_value (w' := wz) ?_ (AP.one hI (d := 144) (by kernel_rfl) (by decide) rfl (by decide) (by decide) (Kept.refl _ _))
            (unfold execOp; simp only [List.map_toArray, List.map_cons, List.map_nil, e143, hI.kept.cell fB nB]; (try simp [go_sem, e143, hI.kept.cell fB nB]); try omega)
          · have e7 : a'.eval (.tmp 7) = .int .i64 (k : Int) := hI.old (by decide)
            refine wp_value (w' := wz) ?_ (AP.one hI (d := 145) (by kernel_rfl) (by decide) rfl (by decide) (by decide) (Kept.refl _ _))
            (unfold execOp; simp only [List.map_toArray, List.map_cons, List.map_nil, e7]; (try simp [go_sem, e7]); try omega)
          · have e144 : a'.eval (.tmp 144) = .slice (some ⟨g, off, none⟩) x.fdb.length n4 := AP.get hI (i := 3) (by decide) rfl (hall ⟨3, .data⟩ (by simp) rfl)
            have e145 : a'.eval (.tmp 145) = .int .i64 (k : Int) := AP.get hI (i := 4) (by decide) rfl (hall ⟨4, .data⟩ (by simp) rfl)
            refine wp_value (w' := wz) ?_ (AP.one hI (d := 146) (by kernel_rfl) (by decide) rfl (by decide) (by decide) (Kept.refl _ _))
            (unfold execOp; simp only [List.map_toArray, List.map_cons, List.map_nil, e144, e145, hlti]; (try simp [go_sem, e144, e145, hlti]); try omega)
          · have e146 : a'.eval (.tmp 146) = .pointer (some ⟨g, off + k * 4, none⟩) := AP.get hI (i := 5) (by decide) rfl (hall ⟨5, .data⟩ (by simp) rfl)
            refine wp_value (w' := wz) ?_ (AP.one hI (d := 147) (by kernel_rfl) (by decide) rfl (by decide) (by decide) (Kept.refl _ _))
            (unfold execOp; simp only [List.map_toArray, List.map_cons, List.map_nil, e146]; (try simp [go_sem, e146]); try omega)
          · have e147 : a'.eval (.tmp 147) = .pointer (some ⟨g, off + k * 4, none⟩) := AP.get hI (i := 6) (by decide) rfl (hall ⟨6, .data⟩ (by simp) rfl)
            refine wp_value (w' := wz) ?_ (AP.one hI (d := 148) (by kernel_rfl) (by decide) rfl (by decide) (by decide) (Kept.refl _ _))
            (unfold execOp; simp only [List.map_toArray, List.map_cons, List.map_nil, e147, hI.kept.cell f0 nG]; (try simp [go_sem, e147, hI.kept.cell f0 nG]); try omega)
          · have e1 : a'.eval (.tmp 1) = .pointer (some ⟨B, 0, none⟩) := hI.old (by decide)
            refine wp_value (w' := wz) ?_ (AP.one hI (d := 149) (by kernel_rfl) (by decide) rfl (by decide) (by decide) (Kept.refl _ _))
            (unfold execOp; simp only [List.map_toArray, List.map_cons, List.map_nil, e1]; (try simp [go_sem, e1]); try omega)
          · have e149 : a'.eval (.tmp 149) = .pointer (some ⟨B, 10, none⟩) := AP.get hI (i := 8) (by decide) rfl (hall ⟨8, .data⟩ (by simp) rfl)
            refine wp_value (w' := wz) ?_ (AP.one hI (d := 150) (by kernel_rfl) (by decide) rfl (by decide) (by decide) (Kept.refl _ _))
            (unfold execOp; simp only [List.map_toArray, List.map_cons, List.map_nil, e149, hI.kept.cell fB nB]; (try simp [go_sem, e149, hI.kept.cell fB nB]); try omega)
          · have e7 : a'.eval (.tmp 7) = .int .i64 (k : Int) := hI.old (by decide)
            refine wp_value (w' := wz) ?_ (AP.one hI (d := 151) (by kernel_rfl) (by decide) rfl (by decide) (by decide) (Kept.refl _ _))
            (unfold execOp; simp only [List.map_toArray, List.map_cons, List.map_nil, e7]; (try simp [go_sem, e7]); try omega)
          · have e150 : a'.eval (.tmp 150) = .slice (some ⟨g, off, none⟩) x.fdb.length n4 := AP.get hI (i := 9) (by decide) rfl (hall ⟨9, .data⟩ (by simp) rfl)
            have e151 : a'.eval (.tmp 151) = .int .i64 (k : Int) := AP.get hI (i := 10) (by decide) rfl (hall ⟨10, .data⟩ (by simp) rfl)
            refine wp_value (w' := wz) ?_ (AP.one hI (d := 152) (by kernel_rfl) (by decide) rfl (by decide) (by decide) (Kept.refl _ _))
            (unfold execOp; simp only [List.map_toArray, List.map_cons, List.map_nil, e150, e151, hlti]; (try simp [go_sem, e150, e151, hlti]); try omega)
          · have e152 : a'.eval (.tmp 152) = .pointer (some ⟨g, off + k * 4, none⟩) := AP.get hI (i := 11) (by decide) rfl (hall ⟨11, .data⟩ (by simp) rfl)
            refine wp_value (w' := wz) ?_ (AP.one hI (d := 153) (by kernel_rfl) (by decide) rfl (by decide) (by decide) (Kept.refl _ _))
            (unfold execOp; simp only [List.map_toArray, List.map_cons, List.map_nil, e152]; (try simp [go_sem, e152]); try omega)
          · have e153 : a'.eval (.tmp 153) = .pointer (some ⟨g, off + k * 4 + 1, none⟩) := AP.get hI (i := 12) (by decide) rfl (hall ⟨12, .data⟩ (by simp) rfl)
            refine wp_value (w' := wz) ?_ (AP.one hI (d := 154) (by kernel_rfl) (by decide) rfl (by decide) (by decide) (Kept.refl _ _))
            (unfold execOp; simp only [List.map_toArray, List.map_cons, List.map_nil, e153, hI.kept.cell f1 nG]; (try simp [go_sem, e153, hI.kept.cell f1 nG]); try omega)
          · have e154 : a'.eval (.tmp 154) = .int .u16 (intAt p 1) := AP.get hI (i := 13) (by decide) rfl (hall ⟨13, .data⟩ (by simp) rfl)
            refine wp_value (w' := wz) ?_ (AP.one hI (d := 155) (by kernel_rfl) (by decide) rfl (by decide) (by decide) (Kept.refl _ _))
            (unfold execOp; simp only [List.map_toArray, List.map_cons, List.map_nil, e154, wu641]; (try simp [go_sem, e154, wu641]); try omega)
          · have e155 : a'.eval (.tmp 155) = .int .u64 (intAt p 1) := AP.get hI (i := 14) (by decide) rfl (hall ⟨14, .data⟩ (by simp) rfl)
            refine wp_go Try.func51 rfl rfl (args := #[.int .u64 (intAt p 1)]) (by simp only [List.map_toArray, List.map_cons, List.map_nil, e155]) ((fromInt_calls (intAt p 1) wz (by omega)).mono ?_)
            rintro e w' ⟨rfl, hk⟩
            exact ⟨_, rfl, AP.one hI (d := 156) (by kernel_rfl) (by decide) rfl (by decide) (by decide) hk⟩
          · have e148 : a'.eval (.tmp 148) = .int .u16 (intAt p 0) := AP.get hI (i := 7) (by decide) rfl (hall ⟨7, .data⟩ (by simp) rfl)
            have e156 : a'.eval (.tmp 156) = .agg (macC (intAt p 1)).toArray := AP.get hI (i := 15) (by decide) rfl (hall ⟨15, .data⟩ (by simp) rfl)
            refine wp_value (w' := wz) ?_ (AP.one hI (d := 157) (by kernel_rfl) (by decide) rfl (by decide) (by decide) (Kept.refl _ _))
            unfold execOp
            simp only [List.map_toArray, List.map_cons, List.map_nil, e148, e156]
            exact run_val (run_buildKey _ _ _)
          · have e1 : a'.eval (.tmp 1) = .pointer (some ⟨B, 0, none⟩) := hI.old (by decide)
            refine wp_value (w' := wz) ?_ (AP.one hI (d := 158) (by kernel_rfl) (by decide) rfl (by decide) (by decide) (Kept.refl _ _))
            (unfold execOp; simp only [List.map_toArray, List.map_cons, List.map_nil, e1]; (try simp [go_sem, e1]); try omega)
          · have e158 : a'.eval (.tmp 158) = .pointer (some ⟨B, 10, none⟩) := AP.get hI (i := 17) (by decide) rfl (hall ⟨17, .data⟩ (by simp) rfl)
            refine wp_value (w' := wz) ?_ (AP.one hI (d := 159) (by kernel_rfl) (by decide) rfl (by decide) (by decide) (Kept.refl _ _))
            (unfold execOp; simp only [List.map_toArray, List.map_cons, List.map_nil, e158, hI.kept.cell fB nB]; (try simp [go_sem, e158, hI.kept.cell fB nB]); try omega)
          · have e7 : a'.eval (.tmp 7) = .int .i64 (k : Int) := hI.old (by decide)
            refine wp_value (w' := wz) ?_ (AP.one hI (d := 160) (by kernel_rfl) (by decide) rfl (by decide) (by decide) (Kept.refl _ _))
            (unfold execOp; simp only [List.map_toArray, List.map_cons, List.map_nil, e7]; (try simp [go_sem, e7]); try omega)
          · have e159 : a'.eval (.tmp 159) = .slice (some ⟨g, off, none⟩) x.fdb.length n4 := AP.get hI (i := 18) (by decide) rfl (hall ⟨18, .data⟩ (by simp) rfl)
            have e160 : a'.eval (.tmp 160) = .int .i64 (k : Int) := AP.get hI (i := 19) (by decide) rfl (hall ⟨19, .data⟩ (by simp) rfl)
            refine wp_value (w' := wz) ?_ (AP.one hI (d := 161) (by kernel_rfl) (by decide) rfl (by decide) (by decide) (Kept.refl _ _))
            (unfold execOp; simp only [List.map_toArray, List.map_cons, List.map_nil, e159, e160, hlti]; (try simp [go_sem, e159, e160, hlti]); try omega)
          · have e161 : a'.eval (.tmp 161) = .pointer (some ⟨g, off + k * 4, none⟩) := AP.get hI (i := 20) (by decide) rfl (hall ⟨20, .data⟩ (by simp) rfl)
            refine wp_value (w' := wz) ?_ (AP.one hI (d := 162) (by kernel_rfl) (by decide) rfl (by decide) (by decide) (Kept.refl _ _))
            (unfold execOp; simp only [List.map_toArray, List.map_cons, List.map_nil, e161]; (try simp [go_sem, e161]); try omega)
          · have e162 : a'.eval (.tmp 162) = .pointer (some ⟨g, off + k * 4 + 2, none⟩) := AP.get hI (i := 21) (by decide) rfl (hall ⟨21, .data⟩ (by simp) rfl)
            refine wp_value (w' := wz) ?_ (AP.one hI (d := 163) (by kernel_rfl) (by decide) rfl (by decide) (by decide) (Kept.refl _ _))
            (unfold execOp; simp only [List.map_toArray, List.map_cons, List.map_nil, e162, hI.kept.cell f2 nG]; (try simp [go_sem, e162, hI.kept.cell f2 nG]); try omega)
          · have e163 : a'.eval (.tmp 163) = .int .u16 (intAt p 2) := AP.get hI (i := 22) (by decide) rfl (hall ⟨22, .data⟩ (by simp) rfl)
            refine wp_value (w' := wz) ?_ (AP.one hI (d := 164) (by kernel_rfl) (by decide) rfl (by decide) (by decide) (Kept.refl _ _))
            (unfold execOp; simp only [List.map_toArray, List.map_cons, List.map_nil, e163, wi642]; (try simp [go_sem, e163, wi642]); try omega)
          · have e1 : a'.eval (.tmp 1) = .pointer (some ⟨B, 0, none⟩) := hI.old (by decide)
            refine wp_value (w' := wz) ?_ (AP.one hI (d := 165) (by kernel_rfl) (by decide) rfl (by decide) (by decide) (Kept.refl _ _))
            (unfold execOp; simp only [List.map_toArray, List.map_cons, List.map_nil, e1]; (try simp [go_sem, e1]); try omega)
          · have e165 : a'.eval (.tmp 165) = .pointer (some ⟨B, 10, none⟩) := AP.get hI (i := 24) (by decide) rfl (hall ⟨24, .data⟩ (by simp) rfl)
            refine wp_value (w' := wz) ?_ (AP.one hI (d := 166) (by kernel_rfl) (by decide) rfl (by decide) (by decide) (Kept.refl _ _))
            (unfold execOp; simp only [List.map_toArray, List.map_cons, List.map_nil, e165, hI.kept.cell fB nB]; (try simp [go_sem, e165, hI.kept.cell fB nB]); try omega)
          · have e7 : a'.eval (.tmp 7) = .int .i64 (k : Int) := hI.old (by decide)
            refine wp_value (w' := wz) ?_ (AP.one hI (d := 167) (by kernel_rfl) (by decide) rfl (by decide) (by decide) (Kept.refl _ _))
            (unfold execOp; simp only [List.map_toArray, List.map_cons, List.map_nil, e7]; (try simp [go_sem, e7]); try omega)
          · have e166 : a'.eval (.tmp 166) = .slice (some ⟨g, off, none⟩) x.fdb.length n4 := AP.get hI (i := 25) (by decide) rfl (hall ⟨25, .data⟩ (by simp) rfl)
            have e167 : a'.eval (.tmp 167) = .int .i64 (k : Int) := AP.get hI (i := 26) (by decide) rfl (hall ⟨26, .data⟩ (by simp) rfl)
            refine wp_value (w' := wz) ?_ (AP.one hI (d := 168) (by kernel_rfl) (by decide) rfl (by decide) (by decide) (Kept.refl _ _))
            (unfold execOp; simp only [List.map_toArray, List.map_cons, List.map_nil, e166, e167, hlti]; (try simp [go_sem, e166, e167, hlti]); try omega)
          · have e168 : a'.eval (.tmp 168) = .pointer (some ⟨g, off + k * 4, none⟩) := AP.get hI (i := 27) (by decide) rfl (hall ⟨27, .data⟩ (by simp) rfl)
            refine wp_value (w' := wz) ?_ (AP.one hI (d := 169) (by kernel_rfl) (by decide) rfl (by decide) (by decide) (Kept.refl _ _))
            (unfold execOp; simp only [List.map_toArray, List.map_cons, List.map_nil, e168]; (try simp [go_sem, e168]); try omega)
          · have e169 : a'.eval (.tmp 169) = .pointer (some ⟨g, off + k * 4 + 3, none⟩) := AP.get hI (i := 28) (by decide) rfl (hall ⟨28, .data⟩ (by simp) rfl)
            refine wp_value (w' := wz) ?_ (AP.one hI (d := 170) (by kernel_rfl) (by decide) rfl (by decide) (by decide) (Kept.refl _ _))
            (unfold execOp; simp only [List.map_toArray, List.map_cons, List.map_nil, e169, hI.kept.cell f3 nG]; (try simp [go_sem, e169, hI.kept.cell f3 nG]); try omega)
          · have e170 : a'.eval (.tmp 170) = .int .u16 (intAt p 3) := AP.get hI (i := 29) (by decide) rfl (hall ⟨29, .data⟩ (by simp) rfl)
            refine wp_value (w' := wz) ?_ (AP.one hI (d := 171) (by kernel_rfl) (by decide) rfl (by decide) (by decide) (Kept.refl _ _))
            (unfold execOp; simp only [List.map_toArray, List.map_cons, List.map_nil, e170, wi643]; (try simp [go_sem, e170, wi643]); try omega)
          · have e157 : a'.eval (.tmp 157) = .agg (keyC (intAt p 0) (intAt p 1)).toArray := AP.get hI (i := 16) (by decide) rfl (hall ⟨16, .data⟩ (by simp) rfl)
            have e164 : a'.eval (.tmp 164) = .int .i64 (intAt p 2) := AP.get hI (i := 23) (by decide) rfl (hall ⟨23, .data⟩ (by simp) rfl)
            have e171 : a'.eval (.tmp 171) = .int .i64 (intAt p 3) := AP.get hI (i := 30) (by decide) rfl (hall ⟨30, .data⟩ (by simp) rfl)
            refine wp_value (w' := wz) ?_ (AP.one hI (d := 172) (by kernel_rfl) (by decide) rfl (by decide) (by decide) (Kept.refl _ _))
            unfold execOp
            simp only [List.map_toArray, List.map_cons, List.map_nil, e157, e164, e171]
            exact run_val (run_buildFd _ _ _ _ _)
          · have e172 : a'.eval (.tmp 172) = .agg (fdP p).toArray := AP.get hI (i := 31) (by decide) rfl (hall ⟨31, .data⟩ (by simp) rfl)
            refine wp_value (w' := wz.alloc (.cells (fdP p).toArray 85)) ?_ (AP.build hI (d := 173) (by kernel_rfl) (by decide) rfl (by decide) (by decide))
            unfold execOp
            simp only [List.map_toArray, List.map_cons, List.map_nil, e172]
            exact run_val (run_bsF p wz)
          · have e142 : a'.eval (.tmp 142) = F := AP.get hI (i := 1) (by decide) rfl (hall ⟨1, .data⟩ (by simp) rfl)
            exact AP.app hI (d := 174) (d1 := 142) (d2 := 173) (by kernel_rfl) (by decide) rfl rfl 60 rfl e142 hfi (hall ⟨1, .data⟩ (by simp) rfl) (by decide) rfl (hall ⟨32, .data⟩ (by simp) rfl) (by decide) (by decide) i0 (.agg #[.int .u16 0, .int .u8 0, .int .u8 0, .int .u8 0, .int .u8 0, .int .u8 0, .int .u8 0, .int .i64 0, .int .i64 0]) 24 Try.underlying60 HI.out HZ0.out HZ1.out HZ2.out rfl (by decide) rl r1 hn63 hnb hbB hvX hvl hXl
          · have e3 : a'.eval (.tmp 3) = .pointer (some ⟨X, 0, none⟩) := hI.old (by decide)
            refine wp_value (w' := wz) ?_ (AP.one hI (d := 175) (by kernel_rfl) (by decide) rfl (by decide) (by decide) (Kept.refl _ _))
            (unfold execOp; simp only [List.map_toArray, List.map_cons, List.map_nil, e3]; (try simp [go_sem, e3]); try omega)
          · have e175 : a'.eval (.tmp 175) = .pointer (some ⟨X, 9, none⟩) := AP.get hI (i := 34) (by decide) rfl (hall ⟨34, .data⟩ (by simp) rfl)
            obtain ⟨u, e174, hform, ⟨x0, hcl⟩, hfz, hst⟩ := AP.store hI (d2 := 174) (by decide) (by decide) rfl (hall ⟨33, .data⟩ (by simp) rfl) (by decide) hvXg hXl hol
            refine wp_skip (w' := wz.setCell ⟨X, 9, none⟩ u) ?_ (hst _)
            rcases hform with rfl | ⟨g9, c9, rfl⟩
            · (unfold execOp; simp only [List.map_toArray, List.map_cons, List.map_nil, e175, e174, hcl, hfz]; (try simp [go_sem, e175, e174, hcl, hfz]); try omega)
            · (unfold execOp; simp only [List.map_toArray, List.map_cons, List.map_nil, e175, e174, hcl, hfz]; (try simp [go_sem, e175, e174, hcl, hfz]); try omega)
        · intro f a' wz hf hI
          obtain ⟨u, hb9, ho9, _, hk9⟩ := AP.finish hI (hf 35 (by decide))
          have hN := hM.goF mok HP.out hb9 ho9 hk9 HB.out
          have HN := Lib.hid hN
          have ho := hI.out
          clear hI hf hb9 ho9 hk9 hN hM mok fr FR fB hown hdv hol hvX hvXg hvl nB nG hgw rl r1 hn63 hnb
          simp only [mdFD, List.foldl_cons, List.foldl_nil] at ho
          generalize a'.tmps.getD 141 undef = y141 at *
          generalize a'.tmps.getD 142 undef = y142 at *
          generalize a'.tmps.getD 143 undef = y143 at *
          generalize a'.tmps.getD 144 undef = y144 at *
          generalize a'.tmps.getD 145 undef = y145 at *
          generalize a'.tmps.getD 146 undef = y146 at *
          generalize a'.tmps.getD 147 undef = y147 at *
          generalize a'.tmps.getD 148 undef = y148 at *
          generalize a'.tmps.getD 149 undef = y149 at *
          generalize a'.tmps.getD 150 undef = y150 at *
          generalize a'.tmps.getD 151 undef = y151 at *
          generalize a'.tmps.getD 152 undef = y152 at *
          generalize a'.tmps.getD 153 undef = y153 at *
          generalize a'.tmps.getD 154 undef = y154 at *
          generalize a'.tmps.getD 155 undef = y155 at *
          generalize a'.tmps.getD 156 undef = y156 at *
          generalize a'.tmps.getD 157 undef = y157 at *
          generalize a'.tmps.getD 158 undef = y158 at *
          generalize a'.tmps.getD 159 undef = y159 at *
          generalize a'.tmps.getD 160 undef = y160 at *
          generalize a'.tmps.getD 161 undef = y161 at *
          generalize a'.tmps.getD 162 undef = y162 at *
          generalize a'.tmps.getD 163 undef = y163 at *
          generalize a'.tmps.getD 164 undef = y164 at *
          generalize a'.tmps.getD 165 undef = y165 at *
          generalize a'.tmps.getD 166 undef = y166 at *
          generalize a'.tmps.getD 167 undef = y167 at *
          generalize a'.tmps.getD 168 undef = y168 at *
          generalize a'.tmps.getD 169 undef = y169 at *
          generalize a'.tmps.getD 170 undef = y170 at *
          generalize a'.tmps.getD 171 undef = y171 at *
          generalize a'.tmps.getD 172 undef = y172 at *
          generalize a'.tmps.getD 173 undef = y173 at *
          generalize a'.tmps.getD 174 undef = y174 at *
          generalize a'.tmps.getD 175 undef = y175 at *
          subst ho
          simp only [List.setIfInBounds_toArray, List.set_cons_zero, List.set_cons_succ]
          go_wp2_with fail
          exact ⟨⟨k + 1, by omega, by omega, by go_num, _, _, _, _, HN.out⟩, by simp [intOf]; omega⟩
      · have e16 : madeN x 16 16 16 k = madeN x 16 16 16 64 := by
          unfold madeN
          congr 2
          rcases (by omega : k = 64 ∨ x.fdb.length = k) with h | h
          · rw [h]
          · rw [List.take_of_length_le (by omega), List.take_of_length_le (by omega)]
        have E16 := Lib.hid e16
        clear e16
        rcases (show (x.fdb.length : Int) ≤ (k : Int) ∨ ((k : Int) < (x.fdb.length : Int) ∧ (64 : Int) ≤ (k : Int)) by omega) with hex | ⟨hex, hex2⟩
        · clear hlt
          go_wp2_with fail
          go_meet
          exact ⟨k, rfl, P, V, S, F, by have := HMr.out; rwa [E16.out] at this⟩
        · clear hlt
          go_wp2_with fail
          go_meet
          exact ⟨k, rfl, P, V, S, F, by have := HMr.out; rwa [E16.out] at this⟩
  case rest =>
  clear HE
  rename World => wc3
  obtain ⟨kc, rfl, HMa⟩ := hcut
  obtain ⟨P, V, S, F, hM⟩ := HMa
  have mok := madeN_ok HOK.out 16 16 16 64 (by decide) (by decide) (by decide) (by decide)
  have hb := hM.blk
  have hz := hM.res
  have hl := recC_len mok P V S F
  have h1c : (recC (madeN x 16 16 16 64) P V S F).toArray.all (·.oneCell') = true := all_oneCell_toArray (recC_one mok hM.own)
  have hs5 : (Try.prog.info? 63).map (·.size) = some (recC (madeN x 16 16 16 64) P V S F).toArray.size := by rw [List.size_toArray, hl]; exact sizeR
  have hold : zeroR.toArray.size = (recC (madeN x 16 16 16 64) P V S F).toArray.size := by rw [List.size_toArray, List.size_toArray, hl]; rfl
  have hres := hz.row (recC (madeN x 16 16 16 64) P V S F)
  have HRES := Lib.hid hres
  have HK := Lib.hid (hM.kept.setRow (g := B + 1) (fun h => by have := HB.out; omega) (recC (madeN x 16 16 16 64) P V S F).toArray)
  have own := hM.own
  have kz : Kept (oneB (B + 1)) wc3 (wc3.setRow (B + 1) (recC (madeN x 16 16 16 64) P V S F).toArray) := Kept.setRow (S := oneB (B + 1)) (Kept.refl _ _) (g := B + 1) (fun _ => (rfl : B + 1 = B + 1)) _
  have HO := Lib.hid (show RecOwn B (wc3.setRow (B + 1) (recC (madeN x 16 16 16 64) P V S F).toArray) (madeN x 16 16 16 64) P V S F from
    ⟨owns_keptO own.ports kz (owns_ne own.ports hz (by decide)), owns_keptO own.vlans kz (owns_ne own.vlans hz (by decide)), owns_keptO own.stat kz (owns_ne own.stat hz (by decide)), owns_keptO own.fdb kz (owns_ne own.fdb hz (by decide))⟩)
  clear own kz hres hl hM mok
  generalize hes : recC (madeN x 16 16 16 64) P V S F = es at *
  have HES := Lib.hid hes
  clear hes
  go_wp2_with (first | (refine wpList_load_row rfl _ (.tmp 3) rfl X rfl _ es.toArray _ _ (by exact hb) Try.underlying63 rfl hs5 ?_) | (refine wpList_store_row rfl _ (.tmp 2) (.tmp 176) rfl (B + 1) es.toArray rfl rfl _ zeroR.toArray (by exact hz) hs5 hold h1c ?_))
  refine bodyPost_ret (v := .agg es.toArray) (results_cell_row rfl _ _ _ _ _ _ _ rfl HRES.out Try.underlying63 rfl hs5) rfl ?_
  exact ⟨_, _, _, _, by rw [← HES.out]; rfl, by rw [HB.out]; exact HO.out, HK.out⟩
end Go.Proofs.Ytngpfjmifaecjaa
