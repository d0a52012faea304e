/- record.Port's On and ID, record.Same. Condition: the lists' lengths. (Printed by wip/mkrec3.py.) -/
import Derived.Test.YtngpfjmifaecjaaRec2
namespace Go.Proofs.Ytngpfjmifaecjaa
open Go.RowKit
theorem fits_get {ks : List Leaf} : ∀ {xs : List Value}, fits ks xs → ∀ {i : Nat} {k : Leaf}, ks[i]? = some k → ∃ v, xs[i]? = some v ∧ k.fit v := by
  induction ks with
  | nil => intro xs h i k hi; simp at hi
  | cons a ks ih =>
    intro xs h i k hi
    match xs, h with
    | x :: xs, h =>
      cases i with
      | zero => simp at hi; subst hi; exact ⟨x, rfl, h.1⟩
      | succ i => obtain ⟨v, h1, h2⟩ := ih h.2 (i := i) (by simpa using hi); exact ⟨v, by simpa using h1, h2⟩
def boolAt (p : List Value) (i : Nat) : Bool := match p[i]? with | some (.bool b) => b | _ => false
def intAt (p : List Value) (i : Nat) : Int := match p[i]? with | some (.int _ n) => n | _ => 0
theorem bool_at {ks : List Leaf} {p : List Value} (h : fits ks p) {i : Nat} (hi : ks[i]? = some .b) : p[i]? = some (.bool (boolAt p i)) := by
  obtain ⟨v, h1, x, rfl⟩ := fits_get h hi
  simp [boolAt, h1]
theorem int_at {ks : List Leaf} {p : List Value} (h : fits ks p) {i : Nat} {k : IntKind} (hi : ks[i]? = some (.i k)) : p[i]? = some (.int k (intAt p i)) := by
  obtain ⟨v, h1, x, rfl⟩ := fits_get h hi
  simp [intAt, h1]
def onB (p : List Value) : Bool := boolAt p 7 && boolAt p 6
set_option maxRecDepth 100000 in
theorem on_calls (p : List Value) (w : World) (h : fits ksP p) : Calls Try.prog 31 #[.agg p.toArray] w fun e w' => e = .returned (.bool (onB p)) ∧ Kept noB w w' := by
  have h7 : p.toArray[7]? = some (.bool (boolAt p 7)) := by rw [List.getElem?_toArray]; exact bool_at h rfl
  have h6 : p.toArray[6]? = some (.bool (boolAt p 6)) := by rw [List.getElem?_toArray]; exact bool_at h rfl
  unfold onB
  clear h
  generalize p.toArray = cs at *
  generalize boolAt p 7 = a at *
  generalize boolAt p 6 = b at *
  cases a with
  | true =>
    go_enter Try.func31, Try.ntmps31
    go_wp2_with fail
    go_ret
    exact ⟨rfl, (Kept.refl _ _).alloc _⟩
  | false =>
    go_enter Try.func31, Try.ntmps31
    go_wp2_with fail
    go_ret
    exact ⟨rfl, (Kept.refl _ _).alloc _⟩
def idOf (p : List Value) (n : Int) : Int := IntKind.u16.wrap (wrap64 (wrap64 (intAt p 4 * 4096) + n))
set_option maxRecDepth 100000 in
theorem id_calls (p : List Value) (n : Int) (w : World) (h : fits ksP p) : Calls Try.prog 32 #[.agg p.toArray, .int .i64 n] w fun e w' => e = .returned (.int .u16 (idOf p n)) ∧ Kept noB w w' := by
  have h4 : p.toArray[4]? = some (.int .i64 (intAt p 4)) := by rw [List.getElem?_toArray]; exact int_at h rfl
  unfold idOf
  clear h
  generalize p.toArray = cs at *
  generalize intAt p 4 = a at *
  go_enter Try.func32, Try.ntmps32
  go_wp2_with fail
  go_ret
  exact ⟨rfl, (Kept.refl _ _).alloc _⟩
def listsR (a b : Rec) : Bool := eqRows a.ports b.ports && (eqRows a.vlans b.vlans && (eqRows a.stat b.stat && eqRows a.fdb b.fdb))
def sameR (a b : Rec) : Bool := listsR a b && (eqCells a.cfg b.cfg && (eqCells a.cnt b.cnt && decide (a.beat = b.beat)))
set_option maxRecDepth 100000 in
set_option maxHeartbeats 4000000 in
theorem same_calls (a b : Rec) (P V S F P2 V2 S2 F2 : Value) (w : World) (oa : a.ok) (ob : b.ok) (ha : RecAt w a P V S F) (hb : RecAt w b P2 V2 S2 F2) :
    Calls Try.prog 33 #[.agg (recC a P V S F).toArray, .agg (recC b P2 V2 S2 F2).toArray] w fun e w' => e = .returned (.bool (sameR a b)) ∧ Kept noB w w' := by
  obtain ⟨⟨A1, n1, rfl, r1⟩, ⟨A2, n2, rfl, r2⟩, ⟨A3, n3, rfl, r3⟩, ⟨A4, n4, rfl, r4⟩⟩ := ha
  obtain ⟨⟨A5, n5, rfl, r5⟩, ⟨A6, n6, rfl, r6⟩, ⟨A7, n7, rfl, r7⟩, ⟨A8, n8, rfl, r8⟩⟩ := hb
  have ml : ∀ {n : Nat}, n ≤ 1000 → n ≤ maxLen := fun h => by unfold maxLen; omega
  have q1 := fun W (hk : Kept noB w W) n => equalP_calls a.ports b.ports A1 A5 n1 n5 (W.drewN n) (r1.kept (hk.drewN n)) (r5.kept (hk.drewN n)) oa.ports ob.ports (ml oa.l1) (ml ob.l1)
  have q2 := fun W (hk : Kept noB w W) n => equalV_calls a.vlans b.vlans A2 A6 n2 n6 (W.drewN n) (r2.kept (hk.drewN n)) (r6.kept (hk.drewN n)) oa.vlans ob.vlans (ml oa.l2) (ml ob.l2)
  have q3 := fun W (hk : Kept noB w W) n => equalS_calls a.stat b.stat A3 A7 n3 n7 (W.drewN n) (r3.kept (hk.drewN n)) (r7.kept (hk.drewN n)) oa.stat ob.stat (ml oa.l3) (ml ob.l3)
  have q4 := fun W (hk : Kept noB w W) n => equalF_calls a.fdb b.fdb A4 A8 n4 n8 (W.drewN n) (r4.kept (hk.drewN n)) (r8.kept (hk.drewN n)) oa.fdb ob.fdb (ml oa.l4) (ml ob.l4)
  have fa := oa.cfg
  have fb := ob.cfg
  have ga := oa.cnt
  have gb := ob.cnt
  have sa : (Try.prog.info? 56).map (·.size) = some a.cfg.length := by rw [oa.lc]; exact sizeC
  have sb : (Try.prog.info? 56).map (·.size) = some b.cfg.length := by rw [ob.lc]; exact sizeC
  have ta : (Try.prog.info? 61).map (·.size) = some a.cnt.length := by rw [oa.ln]; exact sizeN
  have tb : (Try.prog.info? 61).map (·.size) = some b.cnt.length := by rw [ob.ln]; exact sizeN
  unfold sameR listsR
  generalize eqRows a.ports b.ports = x1 at *
  generalize eqRows a.vlans b.vlans = x2 at *
  generalize eqRows a.stat b.stat = x3 at *
  generalize eqRows a.fdb b.fdb = x4 at *
  generalize hx5 : eqCells a.cfg b.cfg = x5 at *
  generalize hx6 : eqCells a.cnt b.cnt = x6 at *
  have ba := (Blk.new w 63 (recC a (.slice A1 a.ports.length n1) (.slice A2 a.vlans.length n2) (.slice A3 a.stat.length n3) (.slice A4 a.fdb.length n4))).alloc (.cells (recC b (.slice A5 b.ports.length n5) (.slice A6 b.vlans.length n6) (.slice A7 b.stat.length n7) (.slice A8 b.fdb.length n8)).toArray 63)
  have bb := Blk.new (w.alloc (.cells (recC a (.slice A1 a.ports.length n1) (.slice A2 a.vlans.length n2) (.slice A3 a.stat.length n3) (.slice A4 a.fdb.length n4)).toArray 63)) 63 (recC b (.slice A5 b.ports.length n5) (.slice A6 b.vlans.length n6) (.slice A7 b.stat.length n7) (.slice A8 b.fdb.length n8))
  have hk : Kept noB w ((w.alloc (.cells (recC a (.slice A1 a.ports.length n1) (.slice A2 a.vlans.length n2) (.slice A3 a.stat.length n3) (.slice A4 a.fdb.length n4)).toArray 63)).alloc (.cells (recC b (.slice A5 b.ports.length n5) (.slice A6 b.vlans.length n6) (.slice A7 b.stat.length n7) (.slice A8 b.fdb.length n8)).toArray 63)) := ((Kept.refl _ _).alloc _).alloc _
  rw [show (w.alloc (.cells (recC a (.slice A1 a.ports.length n1) (.slice A2 a.vlans.length n2) (.slice A3 a.stat.length n3) (.slice A4 a.fdb.length n4)).toArray 63)).heap.size = w.heap.size + 1 by simp] at bb
  go_enter Try.func33, Try.ntmps33
  go_upto_region 1 with (fail)
  generalize (w.alloc (.cells (recC a (.slice A1 a.ports.length n1) (.slice A2 a.vlans.length n2) (.slice A3 a.stat.length n3) (.slice A4 a.fdb.length n4)).toArray 63)).alloc (.cells (recC b (.slice A5 b.ports.length n5) (.slice A6 b.vlans.length n6) (.slice A7 b.stat.length n7) (.slice A8 b.fdb.length n8)).toArray 63) = W at *
  generalize w.heap.size = B at *
  have ra := recC_cfg ba
  have rb := recC_cfg bb
  have na := recC_cnt oa ba
  have nb := recC_cnt ob bb
  have a6 : W.cell? ⟨B, 6, none⟩ = some (.slice A1 a.ports.length n1) := (ba.cell 6).trans (recC_6 oa _ _ _ _)
  have a7 : W.cell? ⟨B, 7, none⟩ = some (.slice A2 a.vlans.length n2) := (ba.cell 7).trans (recC_7 oa _ _ _ _)
  have a8 : W.cell? ⟨B, 8, none⟩ = some (.slice A3 a.stat.length n3) := (ba.cell 8).trans (recC_8 oa _ _ _ _)
  have a9 : W.cell? ⟨B, 9, none⟩ = some (.slice A4 a.fdb.length n4) := (ba.cell 9).trans (recC_9 oa _ _ _ _)
  have a24 : W.cell? ⟨B, 24, none⟩ = some (.int .i64 a.beat) := (ba.cell 24).trans (recC_24 oa _ _ _ _)
  have b6 : W.cell? ⟨B + 1, 6, none⟩ = some (.slice A5 b.ports.length n5) := (bb.cell 6).trans (recC_6 ob _ _ _ _)
  have b7 : W.cell? ⟨B + 1, 7, none⟩ = some (.slice A6 b.vlans.length n6) := (bb.cell 7).trans (recC_7 ob _ _ _ _)
  have b8 : W.cell? ⟨B + 1, 8, none⟩ = some (.slice A7 b.stat.length n7) := (bb.cell 8).trans (recC_8 ob _ _ _ _)
  have b9 : W.cell? ⟨B + 1, 9, none⟩ = some (.slice A8 b.fdb.length n8) := (bb.cell 9).trans (recC_9 ob _ _ _ _)
  have b24 : W.cell? ⟨B + 1, 24, none⟩ = some (.int .i64 b.beat) := (bb.cell 24).trans (recC_24 ob _ _ _ _)
  have q1 := q1 W hk
  have q2 := q2 W hk
  have q3 := q3 W hk
  have q4 := q4 W hk
  have q1 := q1 0
  rw [World.drewN_zero] at q1
  have RAh := Lib.hid ra
  have RBh := Lib.hid rb
  have NAh := Lib.hid na
  have NBh := Lib.hid nb
  have FAh := Lib.hid fa
  have FBh := Lib.hid fb
  have GAh := Lib.hid ga
  have GBh := Lib.hid gb
  have SAh := Lib.hid sa
  have SBh := Lib.hid sb
  have TAh := Lib.hid ta
  have TBh := Lib.hid tb
  have HX5h := Lib.hid hx5
  have HX6h := Lib.hid hx6
  have Q1h := Lib.hid q1
  have Q2h := Lib.hid q2
  have Q3h := Lib.hid q3
  have Q4h := Lib.hid q4
  have HKh := Lib.hid hk
  clear ra rb na nb fa fb ga gb sa sb ta tb hx5 hx6 q1 q2 q3 q4 hk ba bb oa ob r1 r2 r3 r4 r5 r6 r7 r8 ml
  cases x1 with
  | false =>
    go_wp2_with fail
    refine (Q1h.out).mono ?_
    rintro e w1 ⟨rfl, d1, rfl⟩
    go_wp2_with fail
    go_ret
    exact ⟨rfl, HKh.out.drewN _⟩
  | true =>
    go_wp2_with fail
    refine (Q1h.out).mono ?_
    rintro e w1 ⟨rfl, d1, rfl⟩
    cases x2 with
    | false =>
      go_wp2_with fail
      refine (Q2h.out _).mono ?_
      rintro e w1 ⟨rfl, d2, rfl⟩
      go_wp2_with fail
      go_ret
      exact ⟨rfl, HKh.out.drewN _⟩
    | true =>
      go_wp2_with fail
      refine (Q2h.out _).mono ?_
      rintro e w1 ⟨rfl, d2, rfl⟩
      cases x3 with
      | false =>
        go_wp2_with fail
        refine (Q3h.out _).mono ?_
        rintro e w1 ⟨rfl, d3, rfl⟩
        go_wp2_with fail
        go_ret
        exact ⟨rfl, HKh.out.drewN _⟩
      | true =>
        go_wp2_with fail
        refine (Q3h.out _).mono ?_
        rintro e w1 ⟨rfl, d3, rfl⟩
        cases x4 with
        | false =>
          go_wp2_with fail
          refine (Q4h.out _).mono ?_
          rintro e w1 ⟨rfl, d4, rfl⟩
          go_wp2_with fail
          go_ret
          exact ⟨rfl, HKh.out.drewN _⟩
        | true =>
          go_wp2_with fail
          refine (Q4h.out _).mono ?_
          rintro e w1 ⟨rfl, d4, rfl⟩
          cases x5 with
          | false =>
            go_wp2_with (first | (refine wpList_load_midG rfl 56 (.tmp 34) rfl B 0 rfl a.cfg _ RAh.out Try.underlying56 rfl SAh.out ?_) | (refine wpList_load_midG rfl 56 (.tmp 36) rfl (B + 1) 0 rfl b.cfg _ RBh.out Try.underlying56 rfl SBh.out ?_) | (refine wpList_eql_cellsG rfl 56 _ _ _ rfl a.cfg b.cfg rfl rfl leavesC (by decide) aggC guardC FAh.out FBh.out ?_; rw [HX5h.out]) | (refine wpList_load_midG rfl 61 (.tmp 41) rfl B 10 rfl a.cnt _ NAh.out Try.underlying61 rfl TAh.out ?_) | (refine wpList_load_midG rfl 61 (.tmp 43) rfl (B + 1) 10 rfl b.cnt _ NBh.out Try.underlying61 rfl TBh.out ?_) | (refine wpList_eql_cellsG rfl 61 _ _ _ rfl a.cnt b.cnt rfl rfl leavesN (by decide) aggN guardN GAh.out GBh.out ?_; rw [HX6h.out]))
            go_ret
            exact ⟨rfl, HKh.out.drewN _⟩
          | true =>
            cases x6 with
            | false =>
              go_wp2_with (first | (refine wpList_load_midG rfl 56 (.tmp 34) rfl B 0 rfl a.cfg _ RAh.out Try.underlying56 rfl SAh.out ?_) | (refine wpList_load_midG rfl 56 (.tmp 36) rfl (B + 1) 0 rfl b.cfg _ RBh.out Try.underlying56 rfl SBh.out ?_) | (refine wpList_eql_cellsG rfl 56 _ _ _ rfl a.cfg b.cfg rfl rfl leavesC (by decide) aggC guardC FAh.out FBh.out ?_; rw [HX5h.out]) | (refine wpList_load_midG rfl 61 (.tmp 41) rfl B 10 rfl a.cnt _ NAh.out Try.underlying61 rfl TAh.out ?_) | (refine wpList_load_midG rfl 61 (.tmp 43) rfl (B + 1) 10 rfl b.cnt _ NBh.out Try.underlying61 rfl TBh.out ?_) | (refine wpList_eql_cellsG rfl 61 _ _ _ rfl a.cnt b.cnt rfl rfl leavesN (by decide) aggN guardN GAh.out GBh.out ?_; rw [HX6h.out]))
              go_ret
              exact ⟨rfl, HKh.out.drewN _⟩
            | true =>
              go_wp2_with (first | (refine wpList_load_midG rfl 56 (.tmp 34) rfl B 0 rfl a.cfg _ RAh.out Try.underlying56 rfl SAh.out ?_) | (refine wpList_load_midG rfl 56 (.tmp 36) rfl (B + 1) 0 rfl b.cfg _ RBh.out Try.underlying56 rfl SBh.out ?_) | (refine wpList_eql_cellsG rfl 56 _ _ _ rfl a.cfg b.cfg rfl rfl leavesC (by decide) aggC guardC FAh.out FBh.out ?_; rw [HX5h.out]) | (refine wpList_load_midG rfl 61 (.tmp 41) rfl B 10 rfl a.cnt _ NAh.out Try.underlying61 rfl TAh.out ?_) | (refine wpList_load_midG rfl 61 (.tmp 43) rfl (B + 1) 10 rfl b.cnt _ NBh.out Try.underlying61 rfl TBh.out ?_) | (refine wpList_eql_cellsG rfl 61 _ _ _ rfl a.cnt b.cnt rfl rfl leavesN (by decide) aggN guardN GAh.out GBh.out ?_; rw [HX6h.out]))
              go_ret
              exact ⟨rfl, HKh.out.drewN _⟩
end Go.Proofs.Ytngpfjmifaecjaa
