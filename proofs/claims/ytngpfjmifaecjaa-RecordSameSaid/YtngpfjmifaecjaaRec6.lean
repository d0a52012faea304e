/- girderlaw14.told: a port of plain data. No condition. (Printed by wip/mkrec6.py.) -/
import Derived.Test.YtngpfjmifaecjaaRec5
namespace Go.Proofs.Ytngpfjmifaecjaa
open Go.RowKit
def ksT : List Leaf := [.i .i64, .i .i64, .i .i64, .i .i64, .i .i64, .i .i64, .i .i64, .i .i64, .i .i64, .i .i64, .b, .b, .b, .b, .b, .b, .i .u32, .i .u64, .i .u32, .i .u64, .i .u16]
def toldP (x : List Value) : List Value := [.int .u16 (IntKind.u16.wrap (intAt x 0)), .int .i64 (intAt x 1), .bool (boolAt x 10), .int .u32 (intAt x 16), .int .i64 (intAt x 2), .bool (boolAt x 11), .bool (boolAt x 12), .bool (boolAt x 13), .bool (boolAt x 14), .bool (boolAt x 15), .int .i64 (intAt x 3), .int .i64 (intAt x 4), .int .i64 (intAt x 5), .int .u64 (intAt x 17), .int .u32 (intAt x 18), .int .u64 (intAt x 19), .int .u16 (intAt x 20), .int .i64 (intAt x 6), .int .i64 (intAt x 7), .int .i64 (intAt x 8), .int .i64 (intAt x 9)]
theorem toldP_fits (x : List Value) : fits ksP (toldP x) := by
  unfold toldP ksP
  repeat (refine ⟨⟨_, rfl⟩, ?_⟩)
  trivial
set_option maxRecDepth 100000 in
set_option maxHeartbeats 1000000 in
theorem told_calls (x : List Value) (w : World) (h : fits ksT x) : Calls Try.prog 50 #[.agg x.toArray] w fun e w' => e = .returned (.agg (toldP x).toArray) ∧ Kept noB w w' := by
  have hb := (Blk.new w 107 x).alloc (.cells zeroP.toArray 72)
  have hz := Blk.new (w.alloc (.cells x.toArray 107)) 72 zeroP
  have hk : Kept noB w ((w.alloc (.cells x.toArray 107)).alloc (.cells zeroP.toArray 72)) := ((Kept.refl _ _).alloc _).alloc _
  rw [show (w.alloc (.cells x.toArray 107)).heap.size = w.heap.size + 1 by simp] at hz
  have hfp := toldP_fits x
  have hl : (toldP x).length = 21 := fits_length hfp
  go_enter Try.func50, Try.ntmps50
  go_upto_region 1 with (fail)
  change Code.wp _ _ _ _ ((w.alloc (.cells x.toArray 107)).alloc (.cells zeroP.toArray 72))
  generalize (w.alloc (.cells x.toArray 107)).alloc (.cells zeroP.toArray 72) = W0 at *
  obtain ⟨B, hB⟩ : ∃ B, w.heap.size = B := ⟨_, rfl⟩
  rw [hB] at hb hz ⊢
  have p0 : W0.cell? ⟨B, 0, none⟩ = some (.int .i64 (intAt x 0)) := (hb.cell 0).trans (int_at h rfl)
  have p1 : W0.cell? ⟨B, 1, none⟩ = some (.int .i64 (intAt x 1)) := (hb.cell 1).trans (int_at h rfl)
  have p2 : W0.cell? ⟨B, 2, none⟩ = some (.int .i64 (intAt x 2)) := (hb.cell 2).trans (int_at h rfl)
  have p3 : W0.cell? ⟨B, 3, none⟩ = some (.int .i64 (intAt x 3)) := (hb.cell 3).trans (int_at h rfl)
  have p4 : W0.cell? ⟨B, 4, none⟩ = some (.int .i64 (intAt x 4)) := (hb.cell 4).trans (int_at h rfl)
  have p5 : W0.cell? ⟨B, 5, none⟩ = some (.int .i64 (intAt x 5)) := (hb.cell 5).trans (int_at h rfl)
  have p6 : W0.cell? ⟨B, 6, none⟩ = some (.int .i64 (intAt x 6)) := (hb.cell 6).trans (int_at h rfl)
  have p7 : W0.cell? ⟨B, 7, none⟩ = some (.int .i64 (intAt x 7)) := (hb.cell 7).trans (int_at h rfl)
  have p8 : W0.cell? ⟨B, 8, none⟩ = some (.int .i64 (intAt x 8)) := (hb.cell 8).trans (int_at h rfl)
  have p9 : W0.cell? ⟨B, 9, none⟩ = some (.int .i64 (intAt x 9)) := (hb.cell 9).trans (int_at h rfl)
  have p10 : W0.cell? ⟨B, 10, none⟩ = some (.bool (boolAt x 10)) := (hb.cell 10).trans (bool_at h rfl)
  have p11 : W0.cell? ⟨B, 11, none⟩ = some (.bool (boolAt x 11)) := (hb.cell 11).trans (bool_at h rfl)
  have p12 : W0.cell? ⟨B, 12, none⟩ = some (.bool (boolAt x 12)) := (hb.cell 12).trans (bool_at h rfl)
  have p13 : W0.cell? ⟨B, 13, none⟩ = some (.bool (boolAt x 13)) := (hb.cell 13).trans (bool_at h rfl)
  have p14 : W0.cell? ⟨B, 14, none⟩ = some (.bool (boolAt x 14)) := (hb.cell 14).trans (bool_at h rfl)
  have p15 : W0.cell? ⟨B, 15, none⟩ = some (.bool (boolAt x 15)) := (hb.cell 15).trans (bool_at h rfl)
  have p16 : W0.cell? ⟨B, 16, none⟩ = some (.int .u32 (intAt x 16)) := (hb.cell 16).trans (int_at h rfl)
  have p17 : W0.cell? ⟨B, 17, none⟩ = some (.int .u64 (intAt x 17)) := (hb.cell 17).trans (int_at h rfl)
  have p18 : W0.cell? ⟨B, 18, none⟩ = some (.int .u32 (intAt x 18)) := (hb.cell 18).trans (int_at h rfl)
  have p19 : W0.cell? ⟨B, 19, none⟩ = some (.int .u64 (intAt x 19)) := (hb.cell 19).trans (int_at h rfl)
  have p20 : W0.cell? ⟨B, 20, none⟩ = some (.int .u16 (intAt x 20)) := (hb.cell 20).trans (int_at h rfl)
  have hs2 : (Try.prog.info? 72).map (·.size) = some (toldP x).toArray.size := by rw [List.size_toArray, hl]; exact sizeP
  have hold : zeroP.toArray.size = (toldP x).toArray.size := by rw [List.size_toArray, List.size_toArray, hl]; rfl
  have h1c : (toldP x).toArray.all (·.oneCell') = true := all_oneCell_toArray (one_fits hfp)
  have HRES := Lib.hid (hz.row (toldP x))
  have HK := Lib.hid (hk.setRow (g := B + 1) (fun h => by omega) (toldP x).toArray)
  have HZ := Lib.hid hz
  have hdef : toldP x = [.int .u16 (IntKind.u16.wrap (intAt x 0)), .int .i64 (intAt x 1), .bool (boolAt x 10), .int .u32 (intAt x 16), .int .i64 (intAt x 2), .bool (boolAt x 11), .bool (boolAt x 12), .bool (boolAt x 13), .bool (boolAt x 14), .bool (boolAt x 15), .int .i64 (intAt x 3), .int .i64 (intAt x 4), .int .i64 (intAt x 5), .int .u64 (intAt x 17), .int .u32 (intAt x 18), .int .u64 (intAt x 19), .int .u16 (intAt x 20), .int .i64 (intAt x 6), .int .i64 (intAt x 7), .int .i64 (intAt x 8), .int .i64 (intAt x 9)] := rfl
  have HDEF := Lib.hid hdef
  clear hb hk hB h hfp hl hz hdef
  generalize intAt x 0 = z0 at *
  generalize intAt x 1 = z1 at *
  generalize intAt x 2 = z2 at *
  generalize intAt x 3 = z3 at *
  generalize intAt x 4 = z4 at *
  generalize intAt x 5 = z5 at *
  generalize intAt x 6 = z6 at *
  generalize intAt x 7 = z7 at *
  generalize intAt x 8 = z8 at *
  generalize intAt x 9 = z9 at *
  generalize boolAt x 10 = z10 at *
  generalize boolAt x 11 = z11 at *
  generalize boolAt x 12 = z12 at *
  generalize boolAt x 13 = z13 at *
  generalize boolAt x 14 = z14 at *
  generalize boolAt x 15 = z15 at *
  generalize intAt x 16 = z16 at *
  generalize intAt x 17 = z17 at *
  generalize intAt x 18 = z18 at *
  generalize intAt x 19 = z19 at *
  generalize intAt x 20 = z20 at *
  generalize htp : toldP x = tp at *
  have HTP := Lib.hid htp
  clear htp
  go_wp2_with (refine wpList_store_row rfl 72 (.tmp 2) (.tmp 64) rfl (B + 1) tp.toArray rfl (by rw [HDEF.out]; rfl) _ zeroP.toArray (by exact HZ.out) hs2 hold h1c ?_)
  refine bodyPost_ret (v := .agg tp.toArray) (results_cell_row rfl _ _ _ _ _ _ _ rfl HRES.out Try.underlying72 rfl hs2) rfl ?_
  exact ⟨by rw [HTP.out], HK.out⟩
end Go.Proofs.Ytngpfjmifaecjaa
