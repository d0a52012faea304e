/- The walks of package classify. Conditions: the numbers are of their kinds. -/
import Derived.Test.YtclnginkplhlhaaVlan3
import Derived.Test.YtclnginkplhlhaaFrameV
namespace Go.Proofs.Ytclnginkplhlhaa
open Go.RowKit Go.Maps
def pV (pvid acc : Int) (filt : Bool) : Value := .agg #[.int .u16 pvid, .int .i64 acc, .bool filt]
def pGood (pvid acc : Int) : Bool := decide (1 ≤ pvid) && decide (pvid ≤ 4094) && decide (0 ≤ acc) && decide (acc ≤ 2)
set_option maxRecDepth 100000 in
theorem pgood_calls (pvid acc : Int) (filt : Bool) (w : World) : Calls Try.prog 13 #[pV pvid acc filt] w fun e w' => e = .returned (.bool (pGood pvid acc)) ∧ Kept noB w w' := by
  unfold pV
  by_cases h1 : 1 ≤ pvid
  by_cases h2 : pvid ≤ 4094
  by_cases h3 : 0 ≤ acc
  by_cases h4 : acc ≤ 2
  · have e : pGood pvid acc = true := by simp [pGood, h1, h2, h3, h4]
    rw [e]
    clear e
    go_enter Try.func13, Try.ntmps13
    go_wp2_with fail
    go_ret
    refine ⟨?_, (Kept.refl _ _).alloc _⟩
    rfl
  · have e : pGood pvid acc = false := by simp [pGood, h4]
    rw [e]
    clear e
    go_enter Try.func13, Try.ntmps13
    go_wp2_with fail
    go_ret
    refine ⟨?_, (Kept.refl _ _).alloc _⟩
    rfl
  · have e : pGood pvid acc = false := by simp [pGood, h3]
    rw [e]
    have h3' : acc < 0 := by omega
    clear e h3
    go_enter Try.func13, Try.ntmps13
    go_wp2_with fail
    go_ret
    exact ⟨rfl, (Kept.refl _ _).alloc _⟩
  · have e : pGood pvid acc = false := by simp [pGood, h2]
    rw [e]
    have h2' : 4094 < pvid := by omega
    clear e h2
    go_enter Try.func13, Try.ntmps13
    go_wp2_with fail
    go_ret
    exact ⟨rfl, (Kept.refl _ _).alloc _⟩
  · have e : pGood pvid acc = false := by simp [pGood, h1]
    rw [e]
    have h1' : pvid < 1 := by omega
    clear e h1
    go_enter Try.func13, Try.ntmps13
    go_wp2_with fail
    go_ret
    exact ⟨rfl, (Kept.refl _ _).alloc _⟩
def ownB (tg : Bool) (vid : Nat) : Bool := tg && decide (vid ≠ 0)
def ingV (pvid : Int) (tg : Bool) (vid : Nat) : Int := if ownB tg vid then (vid : Int) else pvid
/-- refused by what the port takes? -/
def refB (acc : Int) (own : Bool) : Bool := if own then decide (acc = 2) else decide (acc = 1)
/-- what becomes of it: the numbers of the VLAN's members, whether there is one -/
def ingC (mem : Nat) (ok : Bool) (acc : Int) (filt : Bool) (num : Int) (own : Bool) : Int := if refB acc own then 1 else if !ok then 2 else if filt && !hasB mem num then 3 else 0
/-- the VLAN that is answered -/
def ingA (c v : Int) : Int := if c = 0 then v else 0
theorem fr_c12 (x : Fr) : (frC x).toArray[12]? = some (.bool x.tg) := rfl
theorem fr_c15 (x : Fr) : (frC x).toArray[15]? = some (.int .u16 x.vid) := rfl
set_option maxRecDepth 100000 in
set_option maxHeartbeats 1000000 in
/-- behind the look-up: whatever it answers -/
theorem ingress_any (pvid acc : Int) (filt : Bool) (num : Int) (x : Fr) (t : Value) (w : World) (v0 v2 : Int) (mem : Nat) (ok : Bool) (hmem : mem < 4294967296)
    (hget : ∀ w1, Kept noB w w1 → Calls Try.prog 14 #[t, .int .u16 (ingV pvid x.tg x.vid)] w1 fun e w' => e = .returned (.tuple #[vlanV v0 mem v2, .bool ok]) ∧ Kept noB w1 w') :
    Calls Try.prog 16 #[pV pvid acc filt, .int .i64 num, frV x, t] w fun e w' => e = .returned (.tuple #[.int .u16 (ingA (ingC mem ok acc filt num (ownB x.tg x.vid)) (ingV pvid x.tg x.vid)), .int .i64 (ingC mem ok acc filt num (ownB x.tg x.vid))]) ∧ Kept noB w w' := by
  have c12 := fr_c12 x
  have c15 := fr_c15 x
  have hh := fun w => has_calls mem num w hmem
  have HG := hget _ (((Kept.refl noB w).alloc (.cells #[.int .u16 pvid, .int .i64 acc, .bool filt] 30)).alloc (.cells (frC x).toArray 46))
  have K0 := (((Kept.refl noB w).alloc (.cells #[.int .u16 pvid, .int .i64 acc, .bool filt] 30)).alloc (.cells (frC x).toArray 46))
  have B0 := (Blk.new w 30 [.int .u16 pvid, .int .i64 acc, .bool filt]).alloc (.cells (frC x).toArray 46)
  have b1 := heap_alloc_new (w.alloc (.cells #[.int .u16 pvid, .int .i64 acc, .bool filt] 30)) (.cells (frC x).toArray 46)
  unfold pV frV
  unfold vlanV at HG
  generalize x.tg = tg at *
  generalize x.vid = vid at *
  generalize (frC x).toArray = cs at *
  have HGH := Lib.hid HG
  have HK0 := Lib.hid K0
  have HB0 := Lib.hid B0
  have HH := Lib.hid hh
  clear HG K0 B0 b1 hget hh
  go_enter Try.func16, Try.ntmps16
  cases tg
  · have e1 : ownB false vid = false := rfl
    have e2 : ingV pvid false vid = pvid := by rw [ingV, e1]; rfl
    have HG := HGH.out
    rw [e2] at HG
    have E1 := Lib.hid e1
    have E2 := Lib.hid e2
    clear e1 e2
    go_wp2_with fail
    refine HG.mono ?_
    rintro e w2 ⟨rfl, hk⟩
    have K2 := HK0.out.no hk
    have B2 := HB0.out.kept hk (fun e => e)
    have p0 : w2.cell? ⟨w.heap.size, 0, none⟩ = some (.int .u16 pvid) := B2.cell 0
    have p1 : w2.cell? ⟨w.heap.size, 1, none⟩ = some (.int .i64 acc) := B2.cell 1
    have p2 : w2.cell? ⟨w.heap.size, 2, none⟩ = some (.bool filt) := B2.cell 2
    have B3 := B2.alloc (.cells #[.int .u16 v0, .int .u32 mem, .int .u32 v2] 37)
    have p0a : (w2.alloc (.cells #[.int .u16 v0, .int .u32 mem, .int .u32 v2] 37)).cell? ⟨w.heap.size, 0, none⟩ = some (.int .u16 pvid) := B3.cell 0
    have p1a : (w2.alloc (.cells #[.int .u16 v0, .int .u32 mem, .int .u32 v2] 37)).cell? ⟨w.heap.size, 1, none⟩ = some (.int .i64 acc) := B3.cell 1
    have p2a : (w2.alloc (.cells #[.int .u16 v0, .int .u32 mem, .int .u32 v2] 37)).cell? ⟨w.heap.size, 2, none⟩ = some (.bool filt) := B3.cell 2
    have K3 := Lib.hid (K2.alloc (.cells #[.int .u16 v0, .int .u32 mem, .int .u32 v2] 37))
    clear HGH HG HK0 HB0 hk K2 B2 B3 p0 p1 p2
    by_cases hr : acc = 1
    · subst hr
      go_wp2_with fail
      go_ret2
      refine ⟨?_, K3.out⟩
      rw [E1.out, show ingC mem ok 1 filt num false = 1 from rfl]
      rfl
    · have hrn : (acc == 1) = false := by rw [beq_eq_false_iff_ne]; exact hr
      have eR : refB acc false = false := by simp [refB, hr]
      have ER := Lib.hid eR
      clear hr eR
      cases ok
      · go_wp2_with fail
        go_ret2
        refine ⟨?_, K3.out⟩
        rw [E1.out, ingC, ER.out]
        rfl
      · cases filt
        · go_wp2_with fail
          go_ret2
          refine ⟨?_, K3.out⟩
          rw [E1.out, E2.out, ingC, ER.out]
          rfl
        · go_wp2_with fail
          refine (HH.out _).mono ?_
          rintro e w3 ⟨rfl, rfl⟩
          cases hb : hasB mem num
          · go_wp2_with fail
            go_ret2
            refine ⟨?_, K3.out⟩
            rw [E1.out, ingC, ER.out]
            simp only [hb]
            rfl
          · go_wp2_with fail
            go_ret2
            refine ⟨?_, K3.out⟩
            rw [E1.out, E2.out, ingC, ER.out]
            simp only [hb]
            rfl
  · by_cases hv : vid = 0
    · subst hv
      have e1 : ownB true 0 = false := rfl
      have e2 : ingV pvid true 0 = pvid := by rw [ingV, e1]; rfl
      have HG := HGH.out
      rw [e2] at HG
      have E1 := Lib.hid e1
      have E2 := Lib.hid e2
      clear e1 e2
      go_wp2_with fail
      refine HG.mono ?_
      rintro e w2 ⟨rfl, hk⟩
      have K2 := HK0.out.no hk
      have B2 := HB0.out.kept hk (fun e => e)
      have p0 : w2.cell? ⟨w.heap.size, 0, none⟩ = some (.int .u16 pvid) := B2.cell 0
      have p1 : w2.cell? ⟨w.heap.size, 1, none⟩ = some (.int .i64 acc) := B2.cell 1
      have p2 : w2.cell? ⟨w.heap.size, 2, none⟩ = some (.bool filt) := B2.cell 2
      have B3 := B2.alloc (.cells #[.int .u16 v0, .int .u32 mem, .int .u32 v2] 37)
      have p0a : (w2.alloc (.cells #[.int .u16 v0, .int .u32 mem, .int .u32 v2] 37)).cell? ⟨w.heap.size, 0, none⟩ = some (.int .u16 pvid) := B3.cell 0
      have p1a : (w2.alloc (.cells #[.int .u16 v0, .int .u32 mem, .int .u32 v2] 37)).cell? ⟨w.heap.size, 1, none⟩ = some (.int .i64 acc) := B3.cell 1
      have p2a : (w2.alloc (.cells #[.int .u16 v0, .int .u32 mem, .int .u32 v2] 37)).cell? ⟨w.heap.size, 2, none⟩ = some (.bool filt) := B3.cell 2
      have K3 := Lib.hid (K2.alloc (.cells #[.int .u16 v0, .int .u32 mem, .int .u32 v2] 37))
      clear HGH HG HK0 HB0 hk K2 B2 B3 p0 p1 p2
      by_cases hr : acc = 1
      · subst hr
        go_wp2_with fail
        go_ret2
        refine ⟨?_, K3.out⟩
        rw [E1.out, show ingC mem ok 1 filt num false = 1 from rfl]
        rfl
      · have hrn : (acc == 1) = false := by rw [beq_eq_false_iff_ne]; exact hr
        have eR : refB acc false = false := by simp [refB, hr]
        have ER := Lib.hid eR
        clear hr eR
        cases ok
        · go_wp2_with fail
          go_ret2
          refine ⟨?_, K3.out⟩
          rw [E1.out, ingC, ER.out]
          rfl
        · cases filt
          · go_wp2_with fail
            go_ret2
            refine ⟨?_, K3.out⟩
            rw [E1.out, E2.out, ingC, ER.out]
            rfl
          · go_wp2_with fail
            refine (HH.out _).mono ?_
            rintro e w3 ⟨rfl, rfl⟩
            cases hb : hasB mem num
            · go_wp2_with fail
              go_ret2
              refine ⟨?_, K3.out⟩
              rw [E1.out, ingC, ER.out]
              simp only [hb]
              rfl
            · go_wp2_with fail
              go_ret2
              refine ⟨?_, K3.out⟩
              rw [E1.out, E2.out, ingC, ER.out]
              simp only [hb]
              rfl
    · have hv1 : ((vid : Int) != 0) = true := by rw [bne_iff_ne]; omega
      have e1 : ownB true vid = true := by simp [ownB, hv]
      have e2 : ingV pvid true vid = (vid : Int) := by rw [ingV, e1]; rfl
      clear hv
      have HG := HGH.out
      rw [e2] at HG
      have E1 := Lib.hid e1
      have E2 := Lib.hid e2
      clear e1 e2
      go_wp2_with fail
      refine HG.mono ?_
      rintro e w2 ⟨rfl, hk⟩
      have K2 := HK0.out.no hk
      have B2 := HB0.out.kept hk (fun e => e)
      have p0 : w2.cell? ⟨w.heap.size, 0, none⟩ = some (.int .u16 pvid) := B2.cell 0
      have p1 : w2.cell? ⟨w.heap.size, 1, none⟩ = some (.int .i64 acc) := B2.cell 1
      have p2 : w2.cell? ⟨w.heap.size, 2, none⟩ = some (.bool filt) := B2.cell 2
      have B3 := B2.alloc (.cells #[.int .u16 v0, .int .u32 mem, .int .u32 v2] 37)
      have p0a : (w2.alloc (.cells #[.int .u16 v0, .int .u32 mem, .int .u32 v2] 37)).cell? ⟨w.heap.size, 0, none⟩ = some (.int .u16 pvid) := B3.cell 0
      have p1a : (w2.alloc (.cells #[.int .u16 v0, .int .u32 mem, .int .u32 v2] 37)).cell? ⟨w.heap.size, 1, none⟩ = some (.int .i64 acc) := B3.cell 1
      have p2a : (w2.alloc (.cells #[.int .u16 v0, .int .u32 mem, .int .u32 v2] 37)).cell? ⟨w.heap.size, 2, none⟩ = some (.bool filt) := B3.cell 2
      have K3 := Lib.hid (K2.alloc (.cells #[.int .u16 v0, .int .u32 mem, .int .u32 v2] 37))
      clear HGH HG HK0 HB0 hk K2 B2 B3 p0 p1 p2
      by_cases hr : acc = 2
      · subst hr
        go_wp2_with fail
        go_ret2
        refine ⟨?_, K3.out⟩
        rw [E1.out, show ingC mem ok 2 filt num true = 1 from rfl]
        rfl
      · have hrn : (acc == 2) = false := by rw [beq_eq_false_iff_ne]; exact hr
        have eR : refB acc true = false := by simp [refB, hr]
        have ER := Lib.hid eR
        clear hr eR
        cases ok
        · go_wp2_with fail
          go_ret2
          refine ⟨?_, K3.out⟩
          rw [E1.out, ingC, ER.out]
          rfl
        · cases filt
          · go_wp2_with fail
            go_ret2
            refine ⟨?_, K3.out⟩
            rw [E1.out, E2.out, ingC, ER.out]
            rfl
          · go_wp2_with fail
            refine (HH.out _).mono ?_
            rintro e w3 ⟨rfl, rfl⟩
            cases hb : hasB mem num
            · go_wp2_with fail
              go_ret2
              refine ⟨?_, K3.out⟩
              rw [E1.out, ingC, ER.out]
              simp only [hb]
              rfl
            · go_wp2_with fail
              go_ret2
              refine ⟨?_, K3.out⟩
              rw [E1.out, E2.out, ingC, ER.out]
              simp only [hb]
              rfl
end Go.Proofs.Ytclnginkplhlhaa
