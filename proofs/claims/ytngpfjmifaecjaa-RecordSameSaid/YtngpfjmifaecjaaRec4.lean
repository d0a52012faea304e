/- record.State's Cold. Condition: the lists' lengths. -/
import Derived.Test.YtngpfjmifaecjaaRec3
import Derived.Test.YtngpfjmifaecjaaRowsS
namespace Go.Proofs.Ytngpfjmifaecjaa
open Go.RowKit
def coldP (p : List Value) : List Value := [.int .u16 (intAt p 0), .int .i64 (intAt p 1), .bool (boolAt p 2), .int .u32 (intAt p 3), .int .i64 (intAt p 4), .bool (boolAt p 5), .bool (boolAt p 6), .bool (boolAt p 7), .bool false, .bool false, .int .i64 0, .int .i64 0, .int .i64 0, .int .u64 0, .int .u32 0, .int .u64 0, .int .u16 0, .int .i64 0, .int .i64 0, .int .i64 0, .int .i64 0]
theorem coldP_fits (p : List Value) : fits ksP (coldP p) := by
  unfold coldP ksP
  repeat (refine ⟨⟨_, rfl⟩, ?_⟩)
  trivial
def zerosN : List Value := [.int .u32 0, .int .u32 0, .int .u32 0, .int .u32 0, .int .u32 0, .int .u32 0, .int .u32 0, .int .u32 0, .int .u32 0, .int .u32 0, .int .u32 0, .int .u32 0, .int .u32 0, .int .u32 0]
theorem zerosN_fits : fits ksN zerosN := by
  unfold zerosN ksN
  simp only [List.replicate]
  repeat (refine ⟨⟨_, rfl⟩, ?_⟩)
  trivial
def zeroP : List Value := [.int .u16 0, .int .i64 0, .bool false, .int .u32 0, .int .i64 0, .bool false, .bool false, .bool false, .bool false, .bool false, .int .i64 0, .int .i64 0, .int .i64 0, .int .u64 0, .int .u32 0, .int .u64 0, .int .u16 0, .int .i64 0, .int .i64 0, .int .i64 0, .int .i64 0]
def coldR (r : Rec) : Rec := { r with ports := r.ports.map coldP, fdb := [], cnt := zerosN, beat := 0 }
theorem coldR_ok {r : Rec} (h : r.ok) : (coldR r).ok :=
  ⟨h.cfg, zerosN_fits, (fun x hx => by obtain ⟨p, _, rfl⟩ := List.mem_map.1 hx; exact coldP_fits p), h.vlans, h.stat, fitsAll_nil _, by simpa [coldR] using h.l1, h.l2, h.l3, Nat.zero_le _⟩
theorem recC_cold {r : Rec} (h : r.ok) (P V S F : Value) : (laidL 10 zerosN ((recC r P V S F).set 9 (.slice none 0 0))).set 24 (.int .i64 0) = recC (coldR r) P V S (.slice none 0 0) := by
  rw [recC_set9 h]
  have e1 : (recC r P V S (.slice none 0 0)).take 10 = r.cfg ++ [P, V, S, .slice none 0 0] := by
    unfold recC
    rw [List.take_append, h.lc, List.take_of_length_le (by rw [h.lc]; omega)]
    rfl
  have e2 : (recC r P V S (.slice none 0 0)).drop 24 = [.int .i64 r.beat] := by
    unfold recC
    rw [List.drop_append, List.drop_of_length_le (by rw [h.lc]; omega), h.lc]
    show [] ++ (r.cnt ++ [Value.int .i64 r.beat]).drop 14 = _
    rw [List.drop_append, List.drop_of_length_le (by rw [h.ln]; omega), h.ln]
    rfl
  unfold laidL
  rw [show 10 + zerosN.length = 24 from rfl, e1, e2, List.set_append_right _ _ (by simp [h.lc, zerosN])]
  simp [recC, coldR, h.lc, zerosN]
def mixL (k : Nat) (l : List (List Value)) : List (List Value) := (l.take k).map coldP ++ l.drop k
theorem mixL_len (k : Nat) (l : List (List Value)) : (mixL k l).length = l.length := by
  simp [mixL]
  omega
theorem mixL_zero (l : List (List Value)) : mixL 0 l = l := by simp [mixL]
theorem mixL_all (l : List (List Value)) : mixL l.length l = l.map coldP := by simp [mixL]
theorem mixL_get {k : Nat} {l : List (List Value)} {p : List Value} (h : l[k]? = some p) : (mixL k l)[k]? = some p := by
  obtain ⟨hk, _⟩ := List.getElem?_eq_some_iff.1 h
  have : ((l.take k).map coldP).length = k := by simp; omega
  unfold mixL
  rw [List.getElem?_append_right (by omega), this, Nat.sub_self, List.getElem?_drop, Nat.add_zero]
  exact h
theorem mixL_succ {k : Nat} {l : List (List Value)} {p : List Value} (h : l[k]? = some p) : (mixL k l).set k (coldP p) = mixL (k + 1) l := by
  obtain ⟨hk, hp⟩ := List.getElem?_eq_some_iff.1 h
  have : ((l.take k).map coldP).length = k := by simp; omega
  unfold mixL
  rw [List.set_append_right _ _ (by omega), this, Nat.sub_self, List.drop_eq_getElem_cons hk, List.set_cons_zero, List.take_succ_eq_append_getElem hk, hp]
  simp
theorem mixL_fits {k : Nat} {l : List (List Value)} (h : fitsAll ksP l) : fitsAll ksP (mixL k l) := fun x hx => by
  rcases List.mem_append.1 hx with hx | hx
  · obtain ⟨p, _, rfl⟩ := List.mem_map.1 hx
    exact coldP_fits p
  · exact h x (List.mem_of_mem_drop hx)
theorem buildN : ∀ w, (Instr.build 61 #[]).run Try.prog w = .ok (.agg zerosN.toArray) w := fun w => by kernel_rfl
theorem sizeCP : (Try.prog.info? 68).map (·.size) = some 3 := by kernel_rfl
set_option maxRecDepth 100000 in
set_option maxHeartbeats 4000000 in
theorem cold_calls (r : Rec) (P0 V0 S0 F0 : Value) (w : World) (hok : r.ok) (h : RecAt w r P0 V0 S0 F0) :
    Calls Try.prog 30 #[.agg (recC r P0 V0 S0 F0).toArray] w fun e w' => ∃ P V S, e = .returned (.agg (recC (coldR r) P V S (.slice none 0 0)).toArray) ∧ RecOwn w.heap.size w' (coldR r) P V S (.slice none 0 0) ∧ Kept noB w w' := by
  have hlen := recC_len hok P0 V0 S0 F0
  have q := fun W (hk : Kept noB w W) => clone_calls r P0 V0 S0 F0 W hok (h.kept hk)
  have hb1 := (Blk.new w 63 (recC r P0 V0 S0 F0)).alloc (.cells zeroR.toArray 63)
  have hb2 := Blk.new (w.alloc (.cells (recC r P0 V0 S0 F0).toArray 63)) 63 zeroR
  have hkw : Kept noB w ((w.alloc (.cells (recC r P0 V0 S0 F0).toArray 63)).alloc (.cells zeroR.toArray 63)) := ((Kept.refl _ _).alloc _).alloc _
  have hsz : ((w.alloc (.cells (recC r P0 V0 S0 F0).toArray 63)).alloc (.cells zeroR.toArray 63)).heap.size = w.heap.size + 2 := by simp
  rw [show (w.alloc (.cells (recC r P0 V0 S0 F0).toArray 63)).heap.size = w.heap.size + 1 by simp] at hb2
  clear h
  generalize recC r P0 V0 S0 F0 = cs at *
  have hs : (Try.prog.info? 63).map (·.size) = some cs.toArray.size := by rw [List.size_toArray, hlen]; exact sizeR
  have HS := Lib.hid hs
  have HOK := Lib.hid hok
  clear hs hlen hok
  go_enter Try.func30, Try.ntmps30
  go_upto_region 1 with (fail)
  change Code.wp _ _ _ _ ((w.alloc (.cells cs.toArray 63)).alloc (.cells zeroR.toArray 63))
  generalize (w.alloc (.cells cs.toArray 63)).alloc (.cells zeroR.toArray 63) = W0 at *
  obtain ⟨B, hB⟩ : ∃ B, w.heap.size = B := ⟨_, rfl⟩
  rw [hB] at hb1 hb2 hsz ⊢
  have q := q W0 hkw
  have HB := Lib.hid hB
  have HK := Lib.hid hkw
  have H2 := Lib.hid hb2
  have HZ := Lib.hid hsz
  clear hB hkw hb2 hsz
  go_wp2_with (first | (refine wpList_load_row rfl _ _ rfl B rfl _ cs.toArray _ _ hb1 Try.underlying63 rfl HS.out ?_))
  refine q.mono ?_
  rintro e w1 ⟨P, V, S, F, rfl, hown, hk1⟩
  clear q hb1
  have hb2 := H2.out.kept hk1 (fun e => e)
  have kw := HK.out.no hk1
  have hl := recC_len HOK.out P V S F
  have h1c : (recC r P V S F).toArray.all (·.oneCell') = true := by
    rw [List.all_toArray, List.all_eq_true]
    exact recC_one HOK.out hown
  have hs : (Try.prog.info? 63).map (·.size) = some (recC r P V S F).toArray.size := by rw [List.size_toArray, hl]; exact sizeR
  have hold : zeroR.toArray.size = (recC r P V S F).toArray.size := by rw [List.size_toArray, List.size_toArray, hl]; rfl
  have hz := Blk.new w1 63 zeroR
  have hb3 := hz.row (recC r P V S F)
  have k3 : Kept noB w1 ((w1.alloc (.cells zeroR.toArray 63)).setRow w1.heap.size (recC r P V S F).toArray) := ((Kept.refl _ _).alloc _).setRow (fun h => absurd h (Nat.lt_irrefl _)) _
  have HL := Lib.hid hl
  have hown := (hown.kept k3).base (b' := B) (by have := HZ.out; omega)
  have hb2 := hb2.kept k3 (fun e => e)
  have kw := kw.no k3
  have hX : B + 2 ≤ w1.heap.size := by have := hk1.size; have := HZ.out; omega
  have K3 := Lib.hid k3
  clear k3 hl
  generalize hds : recC r P V S F = ds at *
  have HDS := Lib.hid hds
  clear hds
  go_upto_region 2 with (refine wpList_store_row rfl _ _ _ rfl w1.heap.size ds.toArray rfl rfl _ zeroR.toArray hz hs hold h1c ?_)
  change Code.wp _ _ _ _ ((w1.alloc (.cells zeroR.toArray 63)).setRow w1.heap.size ds.toArray)
  generalize (w1.alloc (.cells zeroR.toArray 63)).setRow w1.heap.size ds.toArray = W2 at *
  clear hz hold h1c K3
  generalize w1.heap.size = X at *
  obtain ⟨A, c, rfl, _, _⟩ := owns_rows hown.ports (fitsAll_len HOK.out.ports)
  have hob : ∃ g, (∀ a, A = some a → a = ⟨g, 0, none⟩) ∧ X ≠ g ∧ B + 1 ≠ g ∧ V.ownBlock ≠ some g ∧ S.ownBlock ≠ some g ∧ (g < w.heap.size → False) := by
    cases A with
    | none =>
      refine ⟨W2.heap.size, (fun a h => by cases h), Nat.ne_of_lt hb3.lt, Nat.ne_of_lt hb2.lt, ?_, ?_, fun h => by have := kw.size; omega⟩
      · intro e; have := (hown.vlans.lt _ e).2; omega
      · intro e; have := (hown.stat.lt _ e).2; omega
    | some a =>
      rcases owns_form hown.ports with e | ⟨g, cap, e⟩
      · cases e
      · cases e
        have hlt := hown.ports.lt g rfl
        refine ⟨g, (fun a h => by cases h; rfl), fun e => ?_, fun e => ?_, ?_, ?_, fun h => by have := HB.out; omega⟩
        · exact owns_ne hown.ports (hb3) (by decide) (by rw [e]; rfl)
        · exact owns_ne hown.ports (hb2) (by decide) (by rw [e]; rfl)
        · exact owns_apart hown.ports hown.vlans (by decide) rfl
        · exact owns_apart hown.ports hown.stat (by decide) rfl
  obtain ⟨g, hA, gX, gB, gV, gS, gw⟩ := hob
  have c6 : W2.cell? ⟨X, 6, none⟩ = some (.slice A r.ports.length c) := by rw [hb3.cell, ← HDS.out, recC_6 HOK.out]
  have hn : r.ports.length ≤ 1000 := HOK.out.l1
  have HO := Lib.hid hown
  have H2 := Lib.hid hb2
  have H3 := Lib.hid hb3
  have KW := Lib.hid kw
  have GA := Lib.hid hA
  have GX := Lib.hid gX
  have GB := Lib.hid gB
  have GV := Lib.hid gV
  have GS := Lib.hid gS
  have GW := Lib.hid gw
  clear hown hb2 hb3 kw hA gX gB gV gS gw HK
  go_wp2_with fail
  go_loopw [11] (fun i wr => ∃ k : Nat, k ≤ r.ports.length ∧ i = .int .i64 k ∧ wr.ownsRow B 72 21 (.slice A r.ports.length c) (mixL k r.ports).length (mixL k r.ports).flatten ∧ Kept (oneB g) W2 wr) (fun i _ => r.ports.length - (intOf i).toNat)
  case atStart =>
    refine ⟨0, Nat.zero_le _, rfl, ?_, Kept.refl _ _⟩
    rw [mixL_zero]
    exact HO.out.ports
  case round =>
    obtain ⟨k, hk, rfl, hown, hkr⟩ := hrel
    by_cases hlt : k < r.ports.length
    · obtain ⟨p, hp⟩ : ∃ p, r.ports[k]? = some p := ⟨_, List.getElem?_eq_getElem hlt⟩
      have hfp : fits ksP p := fitsAll_get HOK.out.ports hp
      have hfl := fitsAll_len (mixL_fits (k := k) HOK.out.ports)
      have hmg := mixL_get hp
      have hms := mixL_succ hp
      obtain ⟨hrows, _⟩ := owns_rowsA hown hfl
      obtain ⟨g', off, rfl, hr⟩ := hrows.get hmg
      have hg' := GA.out _ rfl
      cases hg'
      rw [Nat.zero_add] at hr
      have hml := mixL_len k r.ports
      obtain ⟨_, hthere⟩ := owns_set hown hfl (i := k) (r := coldP p) (by rw [hml]; exact hlt) rfl
      have HML := Lib.hid hml
      have HMS := Lib.hid hms
      have HFL := Lib.hid hfl
      have HOWN := Lib.hid hown
      have hz := Blk.new wr 72 zeroP
      have hp3 := hz.row p
      have hpl : p.length = 21 := fits_length hfp
      have hs1 : (Try.prog.info? 72).map (·.size) = some p.length := by rw [hpl]; exact sizeP
      have hs2 : (Try.prog.info? 72).map (·.size) = some p.toArray.size := by rw [List.size_toArray]; exact hs1
      have hold : zeroP.toArray.size = p.toArray.size := by rw [List.size_toArray, List.size_toArray, hpl]; rfl
      have h1c : p.toArray.all (·.oneCell') = true := by
        rw [List.all_toArray, List.all_eq_true]
        exact one_fits hfp
      have K3 := Lib.hid (show Kept noB wr ((wr.alloc (.cells zeroP.toArray 72)).setRow wr.heap.size p.toArray) from ((Kept.refl _ _).alloc _).setRow (fun h => absurd h (Nat.lt_irrefl _)) _)
      have HT := Lib.hid hthere
      have HR := Lib.hid hrows
      have HFP := Lib.hid hfp
      have HPL := Lib.hid hpl
      have HP3 := Lib.hid hp3
      have HKR := Lib.hid hkr
      have hlr : X < wr.heap.size := Nat.lt_of_lt_of_le H3.out.lt hkr.size
      have hgr : g < wr.heap.size := by
        have := hthere 0 (by omega)
        cases hc : wr.cell? ⟨g, k * 21 + 0, none⟩ with
        | none => rw [hc] at this; simp at this
        | some u => exact World.block_lt_of_cell? wr _ hc
      clear hp hml hthere hrows hmg hms hfl hfp hpl hp3 hkr hown
      go_upto_region 5 with (first | (refine wpList_load_mid rfl _ _ rfl g _ rfl p _ hr Try.underlying72 rfl hs1 ?_) | (refine wpList_store_row rfl _ _ _ rfl wr.heap.size p.toArray rfl rfl _ zeroP.toArray hz hs2 hold h1c ?_))
      change Code.wp _ _ _ _ ((wr.alloc (.cells zeroP.toArray 72)).setRow wr.heap.size p.toArray)
      have c6 : ((wr.alloc (.cells zeroP.toArray 72)).setRow wr.heap.size p.toArray).cell? ⟨X, 6, none⟩ = some (.slice (some ⟨g, 0, none⟩) r.ports.length c) := by
        rw [(H3.out.kept HKR.out GX.out).kept K3.out (fun e => e) |>.cell, ← HDS.out, recC_6 HOK.out]
      have ht3 : ((wr.alloc (.cells zeroP.toArray 72)).setRow wr.heap.size p.toArray).there g (k * 21) 21 := there_kept HT.out K3.out (fun e => e)
      have own3 := owns_kept HOWN.out K3.out
      have hcp : coldP p = [.int .u16 (intAt p 0), .int .i64 (intAt p 1), .bool (boolAt p 2), .int .u32 (intAt p 3), .int .i64 (intAt p 4), .bool (boolAt p 5), .bool (boolAt p 6), .bool (boolAt p 7), .bool false, .bool false, .int .i64 0, .int .i64 0, .int .i64 0, .int .u64 0, .int .u32 0, .int .u64 0, .int .u16 0, .int .i64 0, .int .i64 0, .int .i64 0, .int .i64 0] := rfl
      obtain ⟨hset, _⟩ := owns_set own3 HFL.out (i := k) (r := coldP p) (by rw [HML.out]; exact hlt) rfl
      rw [HMS.out, hcp] at hset
      generalize (wr.alloc (.cells zeroP.toArray 72)).setRow wr.heap.size p.toArray = W3 at *
      have hB := HP3.out
      have p3 : W3.cell? ⟨wr.heap.size, 3, none⟩ = some (.int .u32 (intAt p 3)) := (hB.cell 3).trans (int_at HFP.out rfl)
      have p4 : W3.cell? ⟨wr.heap.size, 4, none⟩ = some (.int .i64 (intAt p 4)) := (hB.cell 4).trans (int_at HFP.out rfl)
      have p5 : W3.cell? ⟨wr.heap.size, 5, none⟩ = some (.bool (boolAt p 5)) := (hB.cell 5).trans (bool_at HFP.out rfl)
      have p6 : W3.cell? ⟨wr.heap.size, 6, none⟩ = some (.bool (boolAt p 6)) := (hB.cell 6).trans (bool_at HFP.out rfl)
      have p7 : W3.cell? ⟨wr.heap.size, 7, none⟩ = some (.bool (boolAt p 7)) := (hB.cell 7).trans (bool_at HFP.out rfl)
      have p0 : W3.rangeAt wr.heap.size 0 [.int .u16 (intAt p 0), .int .i64 (intAt p 1), .bool (boolAt p 2)] := hB.range (fun j v hv => by
        match j, hv with
        | 0, hv => rw [← hv]; exact int_at HFP.out rfl
        | 1, hv => rw [← hv]; exact int_at HFP.out rfl
        | 2, hv => rw [← hv]; exact bool_at HFP.out rfl
        | j + 3, hv => simp at hv)
      have hsc : (Try.prog.info? 72).map (·.size) = some 21 := sizeP
      have HSET2 := Lib.hid hset
      have h1y := one_fits (coldP_fits p)
      rw [hcp] at h1y
      have H1X := Lib.hid (all_oneCell_toArray h1y)
      clear h1y
      clear hset own3 HOWN HML HMS HFL hB hcp hr hz hs1 hs2 hold h1c HP3 HT HR
      generalize intAt p 0 = z0 at *
      generalize intAt p 1 = z1 at *
      generalize boolAt p 2 = z2 at *
      generalize intAt p 3 = z3 at *
      generalize intAt p 4 = z4 at *
      generalize boolAt p 5 = z5 at *
      generalize boolAt p 6 = z6 at *
      generalize boolAt p 7 = z7 at *
      have hk3 := (HKR.out.then (S := oneB g) K3.out (fun _ _ e => e.elim)).trans (Kept.setCells W3 g (k * 21) [.int .u16 z0, .int .i64 z1, .bool z2, .int .u32 z3, .int .i64 z4, .bool z5, .bool z6, .bool z7, .bool false, .bool false, .int .i64 0, .int .i64 0, .int .i64 0, .int .u64 0, .int .u32 0, .int .u64 0, .int .u16 0, .int .i64 0, .int .i64 0, .int .i64 0, .int .i64 0])
      have HK3 := Lib.hid hk3
      clear hk3 HKR K3
      go_upto_region 6 with (first | (refine wpList_load_mid rfl _ _ rfl wr.heap.size 0 rfl [.int .u16 z0, .int .i64 z1, .bool z2] _ p0 Try.underlying68 rfl sizeCP ?_) | (refine wpList_store_mid rfl _ _ _ rfl g (k * 21) #[.int .u16 z0, .int .i64 z1, .bool z2, .int .u32 z3, .int .i64 z4, .bool z5, .bool z6, .bool z7, .bool false, .bool false, .int .i64 0, .int .i64 0, .int .i64 0, .int .u64 0, .int .u32 0, .int .u64 0, .int .u16 0, .int .i64 0, .int .i64 0, .int .i64 0, .int .i64 0] rfl rfl ht3 hsc H1X.out ?_))
      change Code.wp _ _ _ _ (W3.setCells g (k * 21) [.int .u16 z0, .int .i64 z1, .bool z2, .int .u32 z3, .int .i64 z4, .bool z5, .bool z6, .bool z7, .bool false, .bool false, .int .i64 0, .int .i64 0, .int .i64 0, .int .u64 0, .int .u32 0, .int .u64 0, .int .u16 0, .int .i64 0, .int .i64 0, .int .i64 0, .int .i64 0])
      generalize W3.setCells g (k * 21) [.int .u16 z0, .int .i64 z1, .bool z2, .int .u32 z3, .int .i64 z4, .bool z5, .bool z6, .bool z7, .bool false, .bool false, .int .i64 0, .int .i64 0, .int .i64 0, .int .u64 0, .int .u32 0, .int .u64 0, .int .u16 0, .int .i64 0, .int .i64 0, .int .i64 0, .int .i64 0] = W4 at *
      go_wp2_with fail
      go_roundw
      case rel => exact ⟨k + 1, by omega, by go_num, HSET2.out, HK3.out⟩
      case measure => simp [intOf]; omega
    · obtain rfl : k = r.ports.length := by omega
      rw [mixL_all] at hown
      have hok := HOK.out
      have hb3 := H3.out.kept hkr GX.out
      have hb2 := H2.out.kept hkr GB.out
      have hv := owns_keptO HO.out.vlans hkr GV.out
      have hst := owns_keptO HO.out.stat hkr GS.out
      have own : RecOwn B wr (coldR r) (.slice A r.ports.length c) V S (.slice none 0 0) := ⟨hown, hv, hst, World.ownsRow_nil _ _ _ _⟩
      have kr : Kept noB w wr := KW.out.then hkr (fun b hb e => by have e' : b = g := e; subst e'; exact GW.out hb)
      have hXw : ¬ X < w.heap.size := by have := HB.out; omega
      have hc9 : wr.cell? ⟨X, 9, none⟩ = some F := by rw [hb3.cell, ← HDS.out, recC_9 hok]
      have hf9 : wr.frozen? ⟨X, 9, none⟩ = false := hb3.frozen 9
      have b4 := hb3.set 9 (.slice none 0 0)
      have k4 : Kept (oneB X) wr (wr.setCell ⟨X, 9, none⟩ (.slice none 0 0)) := Kept.setOne _ _ _ _
      have hdl : ds.length = 25 := by rw [← HDS.out]; exact recC_len hok _ _ _ _
      have t4 : (wr.setCell ⟨X, 9, none⟩ (.slice none 0 0)).there X 10 zerosN.toArray.size := b4.there (n := 14) (by rw [List.length_set, hdl]; omega)
      have b5 := b4.setCells 10 zerosN (by rw [List.length_set, hdl]; decide)
      have k5 := k4.trans (Kept.setCells (wr.setCell ⟨X, 9, none⟩ (.slice none 0 0)) X 10 zerosN)
      have s14 : (Try.prog.info? 61).map (·.size) = some zerosN.toArray.size := sizeN
      have one5 : zerosN.toArray.all (·.oneCell') = true := all_oneCell_toArray (one_fits zerosN_fits)
      have HB5 := Lib.hid b5
      have HK5 := Lib.hid k5
      have HOW := Lib.hid own
      have HKR := Lib.hid kr
      have HB2 := Lib.hid hb2
      have HDL := Lib.hid hdl
      have HXW := Lib.hid hXw
      have HB3 := Lib.hid hb3
      have HXB := Lib.hid hX
      clear hown hkr hok hb3 hb2 hv hst own kr b4 k4 b5 k5 hdl hXw
      go_upto_region 7 with (fail)
      have c24 : ((wr.setCell ⟨X, 9, none⟩ (.slice none 0 0)).setCells X 10 zerosN).cell? ⟨X, 24, none⟩ = some (.int .i64 r.beat) := by
        rw [HB5.out.cell, getElem?_laid_out (by rw [List.length_set, HDL.out]; decide) (.inr (by decide)), List.getElem?_set_ne (by decide), ← HDS.out, recC_24 HOK.out]
      have f24 : ((wr.setCell ⟨X, 9, none⟩ (.slice none 0 0)).setCells X 10 zerosN).frozen? ⟨X, 24, none⟩ = false := HB5.out.frozen 24
      have b6 := HB5.out.set 24 (.int .i64 0)
      rw [← HDS.out, recC_cold HOK.out] at b6
      have k6 := HK5.out.trans (Kept.setOne ((wr.setCell ⟨X, 9, none⟩ (.slice none 0 0)).setCells X 10 zerosN) X 24 (.int .i64 0))
      have HB6 := Lib.hid b6
      have HK6 := Lib.hid k6
      have HOKC := Lib.hid (coldR_ok HOK.out)
      clear b6 k6 HK5 HB5
      refine wp_region_lit (wpList_build0 rfl 61 rfl _ buildN ?_)
      generalize zerosN = zn at *
      go_upto_region 8 with (refine wpList_store_mid rfl 61 _ _ rfl X 10 zn.toArray rfl rfl (by exact t4) s14 one5 ?_)
      change Code.wp _ _ _ _ (((wr.setCell ⟨X, 9, none⟩ (.slice none 0 0)).setCells X 10 zn).setCell ⟨X, 24, none⟩ (.int .i64 0))
      generalize ((wr.setCell ⟨X, 9, none⟩ (.slice none 0 0)).setCells X 10 zn).setCell ⟨X, 24, none⟩ (.int .i64 0) = W5 at *
      have hb := HB6.out
      have own : RecOwn B W5 (coldR r) (.slice A r.ports.length c) V S (.slice none 0 0) := ⟨owns_keptO HOW.out.ports HK6.out (owns_ne HOW.out.ports HB3.out (by decide)), owns_keptO HOW.out.vlans HK6.out (owns_ne HOW.out.vlans HB3.out (by decide)), owns_keptO HOW.out.stat HK6.out (owns_ne HOW.out.stat HB3.out (by decide)), World.ownsRow_nil _ _ _ _⟩
      have hz := HB2.out.kept HK6.out (fun e => by have e' : B + 1 = X := e; have := HXB.out; omega)
      have hl := recC_len HOKC.out (.slice A r.ports.length c) V S (.slice none 0 0)
      have h1c : (recC (coldR r) (.slice A r.ports.length c) V S (.slice none 0 0)).toArray.all (·.oneCell') = true := all_oneCell_toArray (recC_one HOKC.out own)
      have hs5 : (Try.prog.info? 63).map (·.size) = some (recC (coldR r) (.slice A r.ports.length c) V S (.slice none 0 0)).toArray.size := by rw [List.size_toArray, hl]; exact sizeR
      have hold : zeroR.toArray.size = (recC (coldR r) (.slice A r.ports.length c) V S (.slice none 0 0)).toArray.size := by rw [List.size_toArray, List.size_toArray, hl]; rfl
      have kr := HKR.out.then HK6.out (fun i hi e => by have e' : i = X := e; exact HXW.out (by omega))
      have hres := hz.row (recC (coldR r) (.slice A r.ports.length c) V S (.slice none 0 0))
      have HRES := Lib.hid hres
      have HK := Lib.hid (kr.setRow (g := B + 1) (fun h => by have := HB.out; omega) (recC (coldR r) (.slice A r.ports.length c) V S (.slice none 0 0)).toArray)
      have HO' := Lib.hid (show RecOwn B (W5.setRow (B + 1) (recC (coldR r) (.slice A r.ports.length c) V S (.slice none 0 0)).toArray) (coldR r) (.slice A r.ports.length c) V S (.slice none 0 0) from
        have kz : Kept (oneB (B + 1)) W5 (W5.setRow (B + 1) (recC (coldR r) (.slice A r.ports.length c) V S (.slice none 0 0)).toArray) := Kept.setRow (S := oneB (B + 1)) (Kept.refl _ _) (g := B + 1) (fun _ => (rfl : B + 1 = B + 1)) _
        ⟨owns_keptO own.ports kz (owns_ne own.ports hz (by decide)), owns_keptO own.vlans kz (owns_ne own.vlans hz (by decide)), owns_keptO own.stat kz (owns_ne own.stat hz (by decide)), World.ownsRow_nil _ _ _ _⟩)
      clear own kr hres hl c24 f24 t4 hc9 hf9 HKR HK6
      generalize hes : recC (coldR r) (.slice A r.ports.length c) V S (.slice none 0 0) = es at *
      have HES := Lib.hid hes
      clear hes
      go_wp2_with (first | (refine wpList_load_row rfl _ _ rfl X rfl _ es.toArray _ _ (by exact hb) Try.underlying63 rfl hs5 ?_) | (refine wpList_store_row rfl _ _ _ rfl (B + 1) es.toArray rfl rfl _ zeroR.toArray (by exact hz) hs5 hold h1c ?_))
      refine bodyPost_ret (v := .agg es.toArray) (results_cell_row rfl _ _ _ _ _ _ _ rfl HRES.out Try.underlying63 rfl hs5) rfl ?_
      exact ⟨_, _, _, by rw [HES.out], by rw [HB.out]; exact HO'.out, HK.out⟩
end Go.Proofs.Ytngpfjmifaecjaa
