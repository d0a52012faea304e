/- The walk of ClassifyOpen. Conditions: the numbers are of their kinds. -/
import Derived.Test.YtclnginkplhlhaaClassify3
namespace Go.Proofs.Ytclnginkplhlhaa
open Go.RowKit Go.Maps
/-- a frame of no bytes, tagged or not -/
def frT (tg : Bool) (vid : Nat) : Fr := ⟨0, 0, 0, 0, 0, 0, 0, 0, 0, 0, 0, 0, tg, 0, false, vid, 0, []⟩
theorem frSize46 : (Try.prog.info? 46).map (·.size) = some 18 := by kernel_rfl
theorem oneF (x : Fr) : (frC x).toArray.all (·.oneCell') = true := by rw [List.all_toArray]; rfl
theorem Tbl.far {w0 w : World} {g n : Nat} {D : DataW Unit} (h : Tbl w0 w g n D) {p : Addr} {T : TypeId} {cs : List Value} (hB : Blk w p.block T cs) (hne : g ≠ p.block) (hp : w0.heap.size ≤ p.block) (u : Value) : Tbl w0 (w.setCell p u) g n D := by
  obtain ⟨b, h1, h2, h3, h4, h5, h6⟩ := h
  have hb : b ≠ p.block := by
    intro e
    obtain ⟨es, clock, hm, _⟩ := h2
    rw [e] at hm
    unfold Blk at hB
    rw [hB] at hm
    cases hm
  exact ⟨b, h1.far hne u, h2.setCell hb u, h3, h4, h5, h6.setCell (fun h => by omega) u⟩
/-- what becomes of a frame at a port that takes all -/
def opC (mem : Nat) (filt : Bool) (num : Int) : Int := if filt && !hasB mem num then 3 else 0
theorem open_ing {w0 w : World} {g n : Nat} {D : DataW Unit} (h : Tbl w0 w g n D) (v m : Nat) (hN : memN D v = m) (hB : getB D v = true) (hv0 : 1 ≤ v) (hv : v < 65536) (tg : Bool) (vid : Nat) (pvid : Int) (filt : Bool) (num : Int) (hvid : vid = if tg then v else 0) (hp : tg = false → pvid = v) (hp0 : 0 ≤ pvid) (hp1 : pvid < 65536) :
    Calls Try.prog 16 #[.agg #[.int .u16 pvid, .int .i64 0, .bool filt], .int .i64 num, .agg (frC (frT tg vid)).toArray, .pointer (some ⟨g, 0, none⟩)] w fun e w' => e = .returned (.tuple #[.int .u16 (ingA (opC m filt num) v), .int .i64 (opC m filt num)]) ∧ Kept noB w w' := by
  have q := ingress_tbl h pvid 0 filt num (frT tg vid) hp0 hp1 (show vid < 65536 by rw [hvid]; split <;> omega)
  have eV : ingV pvid (frT tg vid).tg (frT tg vid).vid = (v : Int) := by
    cases tg
    · rw [hp rfl]; rfl
    · have : vid = v := by simpa using hvid
      subst this
      have hvn : vid ≠ 0 := by omega
      simp [ingV, ownB, frT, hvn]
  have eC : ingC m true 0 filt num (ownB (frT tg vid).tg (frT tg vid).vid) = opC m filt num := by
    have : refB 0 (ownB (frT tg vid).tg (frT tg vid).vid) = false := by unfold refB; split <;> rfl
    rw [ingC, this]
    rfl
  rw [eV, hN, hB, eC] at q
  exact q
set_option maxRecDepth 100000 in
set_option maxHeartbeats 1000000 in
theorem classifyOpen_in (x0 num : Int) (m : Nat) (tagged : Bool) (w : World) (h0 : 0 ≤ x0) (h0' : x0 < 65536) (hm : m < 65536) :
    Calls Try.prog 4 #[.agg #[.int .u16 x0, .int .u16 m], .int .i64 num, .bool tagged] w fun e w' => e = .returned (.bool true) ∧ Kept noB w w' := by
  have k0 : Kept noB w (w.alloc (.cells #[.int .u16 x0, .int .u16 m] 33)) := (Kept.refl _ _).alloc _
  have b0 := Blk.new w 33 [.int .u16 x0, .int .u16 m]
  have HK := Lib.hid k0
  have HB := Lib.hid b0
  clear k0 b0
  go_enter Try.func4, Try.ntmps4
  go_wp2_with fail
  refine (speaks11 _).mono ?_
  rintro e w1 ⟨rfl, hk1⟩
  have k1 := HK.out.no hk1
  have b1 := HB.out.kept hk1 (fun e => e)
  have c0 : w1.cell? ⟨w.heap.size, 0, none⟩ = some (.int .u16 x0) := b1.cell 0
  have c1 : w1.cell? ⟨w.heap.size, 1, none⟩ = some (.int .u16 m) := b1.cell 1
  clear HK HB hk1
  have K1 := Lib.hid k1
  clear k1 b1
  go_wp2_with fail
  go_quiet (fail)
  have K2 := Lib.hid (K1.out.drewN nq)
  clear c0 c1 K1
  generalize w1.drewN nq = w2 at *
  have hv1 : 1 ≤ 1 + x0 % 4094 := by omega
  have hv2 : 1 + x0 % 4094 ≤ 4094 := by omega
  generalize hv : 1 + x0 % 4094 = v0 at *
  clear hv h0 h0'
  obtain ⟨v, rfl⟩ := Int.eq_ofNat_of_zero_le (show 0 ≤ v0 by omega)
  have h0 : (0 : Int) ≤ (m : Int) := by omega
  have h1 : (m : Int) < 65536 := by omega
  go_wp2_with fail
  refine (new_calls K2.out).mono ?_
  rintro e w3 ⟨g, rfl, T⟩
  have HT := Lib.hid T
  clear T K2
  go_wp2_with fail
  refine (set_calls HT.out v m (by omega) (by omega) hm (by omega)).mono ?_
  rintro e w4 ⟨rfl, T4, _⟩
  rw [setD_nil v _ hv1 hv2] at T4
  rw [set_nil v hv1 hv2]
  have hN := getN_put (.map []) isMap_nil v m (by omega) (by omega)
  have hB := getB_put (.map []) isMap_nil v m (by omega) (by omega)
  have eM : memN ((DataW.map []).put (.int .u16 v) (vlanD v m 0)) v = m := by rw [memN, hN]; simp
  have HT4 := Lib.hid T4
  have HN := Lib.hid hB
  have HM := Lib.hid eM
  clear HT T4 hN hB eM
  have hz : (w4.alloc (.cells (frC Fr.zero).toArray 46)).heap[w4.heap.size]? = some (.cells (frC Fr.zero).toArray 46 (0, 0)) := heap_alloc_new w4 _
  have hs : (Try.prog.info? 46).map (·.size) = some (frC (frT tagged 0)).toArray.size := frSize46
  have h1c := oneF (frT tagged 0)
  have hold : (frC Fr.zero).toArray.size = (frC (frT tagged 0)).toArray.size := rfl
  go_upto_region 8 with (first | refine wpList_store_row rfl _ _ _ rfl w4.heap.size (frC (frT tagged 0)).toArray rfl rfl _ (frC Fr.zero).toArray hz hs hold h1c ?_)
  change Code.wp _ _ _ _ (World.setRow (w4.alloc (.cells (frC Fr.zero).toArray 46)) w4.heap.size (frC (frT tagged 0)).toArray)
  have K5 : Kept noB w4 (World.setRow (w4.alloc (.cells (frC Fr.zero).toArray 46)) w4.heap.size (frC (frT tagged 0)).toArray) := ((Kept.refl _ _).alloc _).setRow (fun h => by omega) _
  have B5 : Blk (World.setRow (w4.alloc (.cells (frC Fr.zero).toArray 46)) w4.heap.size (frC (frT tagged 0)).toArray) w4.heap.size 46 (frC (frT tagged 0)) := Blk.row hz _
  have T5 := HT4.out.kept K5
  have hw4 : w.heap.size ≤ w4.heap.size := HT4.out.here.size
  have hg4 : g < w4.heap.size := HT4.out.choose_spec.1.lt
  clear hz hs h1c hold HT4 K5
  generalize World.setRow (w4.alloc (.cells (frC Fr.zero).toArray 46)) w4.heap.size (frC (frT tagged 0)).toArray = W at *
  have B6 := B5.alloc (.cells #[.int .u16 v, .int .i64 0, .bool false] 30)
  have P6 := Blk.new W 30 [.int .u16 v, .int .i64 0, .bool false]
  have T6 := T5.kept ((Kept.refl _ _).alloc (.cells #[.int .u16 v, .int .i64 0, .bool false] 30))
  have hWl := B5.lt
  cases tagged
  · obtain ⟨WW, hWW⟩ : ∃ WW, WW = W.alloc (.cells #[.int .u16 v, .int .i64 0, .bool false] 30) := ⟨_, rfl⟩
    have TT := T6
    have BB := B6
    have PP := P6
    clear T6 B6 P6 B5 T5
    clear hWW
    have HT := Lib.hid TT
    have HB := Lib.hid BB
    have HP := Lib.hid PP
    have hs : (Try.prog.info? 46).map (·.size) = some (frC (frT false 0)).toArray.size := frSize46
    have hb := BB
    unfold Blk at hb
    clear BB PP TT
    go_wp2_with (first | refine wpList_load_row rfl _ _ rfl w4.heap.size rfl _ (frC (frT false 0)).toArray _ _ hb Try.underlying46 rfl hs ?_)
    refine (open_ing HT.out v m HM.out HN.out (by omega) (by omega) false 0 v false num rfl (fun _ => rfl) (by omega) (by omega)).mono ?_
    rintro e w7 ⟨rfl, hk7⟩
    rw [show opC m false num = 0 from rfl, show ingA 0 (v : Int) = (v : Int) from rfl]
    have T7 := HT.out.kept hk7
    have B7 := HB.out.kept hk7 (fun e => e)
    have P7 := HP.out.kept hk7 (fun e => e)
    clear HT HB HP hk7 hb
    have p0 : w7.cell? ⟨W.heap.size, 0, none⟩ = some (.int .u16 v) := P7.cell 0
    have p1 : w7.cell? ⟨W.heap.size, 1, none⟩ = some (.int .i64 0) := P7.cell 1
    have p2 : w7.cell? ⟨W.heap.size, 2, none⟩ = some (.bool false) := P7.cell 2
    have f2 := P7.frozen 2
    have T8 := T7.far (p := ⟨W.heap.size, 2, none⟩) P7 (show g ≠ W.heap.size by omega) (show w.heap.size ≤ W.heap.size by omega) (.bool true)
    have B8 := B7.far (p := ⟨W.heap.size, 2, none⟩) (show w4.heap.size ≠ W.heap.size by omega) (.bool true)
    have HT := Lib.hid T8
    have HB := Lib.hid B8
    have hb := B8
    unfold Blk at hb
    clear T7 B7 P7 T8 B8
    go_wp2_with (first | refine wpList_load_row rfl _ _ rfl w4.heap.size rfl _ (frC (frT false 0)).toArray _ _ hb Try.underlying46 rfl hs ?_)
    refine (open_ing HT.out v m HM.out HN.out (by omega) (by omega) false 0 v true num rfl (fun _ => rfl) (by omega) (by omega)).mono ?_
    rintro e w9 ⟨rfl, hk9⟩
    have K9 := HT.out.here.no hk9
    clear HT HB hb hk9 p0 p1 p2 f2 hs
    have qh := fun w => has_calls m num w (by omega)
    cases hh : hasB m num
    · rw [show opC m true num = 3 by rw [opC, hh]; rfl]
      rw [hh] at qh
      clear hh
      go_wp2_with fail
      refine (qh _).mono ?_
      rintro e w' ⟨rfl, rfl⟩
      go_wp2_with fail
      go_ret
      exact ⟨rfl, K9⟩
    · rw [show opC m true num = 0 by rw [opC, hh]; rfl]
      rw [hh] at qh
      clear hh
      go_wp2_with fail
      refine (qh _).mono ?_
      rintro e w' ⟨rfl, rfl⟩
      go_wp2_with fail
      go_ret
      exact ⟨rfl, K9⟩
  · have f15 := B6.frozen 15
    have c15 : (W.alloc (.cells #[.int .u16 v, .int .i64 0, .bool false] 30)).cell? ⟨w4.heap.size, 15, none⟩ = some (.int .u16 0) := B6.cell 15
    have T7 := T5.far (p := ⟨w4.heap.size, 15, none⟩) B5 (show g ≠ w4.heap.size by omega) hw4 (.int .u16 v)
    have B7 := B5.set 15 (.int .u16 v)
    rw [show (frC (frT true 0)).set 15 (.int .u16 v) = frC (frT true v) from rfl] at B7
    have hpv1 : 0 ≤ 1 + (v : Int) % 4094 := by omega
    have hpv2 : 1 + (v : Int) % 4094 < 65536 := by omega
    have TT := T7.kept ((Kept.refl _ _).alloc (.cells #[.int .u16 (1 + (v : Int) % 4094), .int .i64 0, .bool false] 30))
    have BB := B7.alloc (.cells #[.int .u16 (1 + (v : Int) % 4094), .int .i64 0, .bool false] 30)
    have PP := Blk.new (W.setCell ⟨w4.heap.size, 15, none⟩ (.int .u16 v)) 30 [.int .u16 (1 + (v : Int) % 4094), .int .i64 0, .bool false]
    rw [show (W.setCell ⟨w4.heap.size, 15, none⟩ (.int .u16 v)).heap.size = W.heap.size by simp [World.setCell]] at PP
    clear T6 B6 P6 T7 B7 T5 B5
    have HT := Lib.hid TT
    have HB := Lib.hid BB
    have HP := Lib.hid PP
    clear BB PP TT
    go_upto_region 12 with (fail)
    have TT := HT.out
    have BB := HB.out
    have PP := HP.out
    clear HT HB HP c15 f15
    generalize hpv : 1 + (v : Int) % 4094 = pv at *
    clear hpv
    generalize (W.setCell ⟨w4.heap.size, 15, none⟩ (.int .u16 v)).alloc (.cells [.int .u16 pv, .int .i64 0, .bool false].toArray 30) = WW at *
    have p0 : WW.cell? ⟨W.heap.size, 0, none⟩ = some (.int .u16 pv) := PP.cell 0
    have p1 : WW.cell? ⟨W.heap.size, 1, none⟩ = some (.int .i64 0) := PP.cell 1
    have p2 : WW.cell? ⟨W.heap.size, 2, none⟩ = some (.bool false) := PP.cell 2
    have HT := Lib.hid TT
    have HB := Lib.hid BB
    have HP := Lib.hid PP
    have hs : (Try.prog.info? 46).map (·.size) = some (frC (frT true v)).toArray.size := frSize46
    have q1 := fun (w5 : World) (T5 : Tbl w w5 g 1 ((DataW.map []).put (.int .u16 v) (vlanD v m 0))) (filt : Bool) => open_ing T5 v m HM.out HN.out (by omega) (by omega) true v pv filt num rfl (fun h => by cases h) hpv1 hpv2
    have hb := BB
    unfold Blk at hb
    generalize hcs : (frC (frT true v)).toArray = cs at *
    have Q1 := Lib.hid q1
    have HCS := Lib.hid hcs
    clear BB PP TT q1 hcs
    go_wp2_with (first | refine wpList_load_row rfl _ _ rfl w4.heap.size rfl _ cs _ _ hb Try.underlying46 rfl hs ?_)
    refine (Q1.out _ HT.out false).mono ?_
    rintro e w7 ⟨rfl, hk7⟩
    rw [show opC m false num = 0 from rfl, show ingA 0 (v : Int) = (v : Int) from rfl]
    have T7 := HT.out.kept hk7
    have B7 := HB.out.kept hk7 (fun e => e)
    have P7 := HP.out.kept hk7 (fun e => e)
    clear HT HB HP hk7 hb p0 p1 p2
    have p0 : w7.cell? ⟨W.heap.size, 0, none⟩ = some (.int .u16 pv) := P7.cell 0
    have p1 : w7.cell? ⟨W.heap.size, 1, none⟩ = some (.int .i64 0) := P7.cell 1
    have p2 : w7.cell? ⟨W.heap.size, 2, none⟩ = some (.bool false) := P7.cell 2
    have f2 := P7.frozen 2
    have T8 := T7.far (p := ⟨W.heap.size, 2, none⟩) P7 (show g ≠ W.heap.size by omega) (show w.heap.size ≤ W.heap.size by omega) (.bool true)
    have B8 := B7.far (p := ⟨W.heap.size, 2, none⟩) (show w4.heap.size ≠ W.heap.size by omega) (.bool true)
    have HT := Lib.hid T8
    have HB := Lib.hid B8
    have hb := B8
    unfold Blk at hb
    rw [HCS.out] at hb
    clear T7 B7 P7 T8 B8
    go_wp2_with (first | refine wpList_load_row rfl _ _ rfl w4.heap.size rfl _ cs _ _ hb Try.underlying46 rfl hs ?_)
    refine (Q1.out _ HT.out true).mono ?_
    rintro e w9 ⟨rfl, hk9⟩
    have K9 := HT.out.here.no hk9
    clear HT HB hb hk9 p0 p1 p2 f2 hs
    have qh := fun w => has_calls m num w (by omega)
    cases hh : hasB m num
    · rw [show opC m true num = 3 by rw [opC, hh]; rfl]
      rw [hh] at qh
      clear hh
      go_wp2_with fail
      refine (qh _).mono ?_
      rintro e w' ⟨rfl, rfl⟩
      go_wp2_with fail
      go_ret
      exact ⟨rfl, K9⟩
    · rw [show opC m true num = 0 by rw [opC, hh]; rfl]
      rw [hh] at qh
      clear hh
      go_wp2_with fail
      refine (qh _).mono ?_
      rintro e w' ⟨rfl, rfl⟩
      go_wp2_with fail
      go_ret
      exact ⟨rfl, K9⟩
end Go.Proofs.Ytclnginkplhlhaa
