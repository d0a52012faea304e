/- The walk of tlv.sections. Condition: the text's length. -/
import Derived.Test.YtclnginkplhlhaaTlv2
import Derived.Test.YtclnginkplhlhaaPlainTlv2
import Derived.Deep.AppendLies
import Derived.OwnWalk
namespace Go.Proofs.Ytclnginkplhlhaa
open Go.RowKit
/-- the cells of sections -/
def secC (l : List Sec) : List Value := l.flatMap fun x => [.int .u8 (x.1.toNat : Int), .string (bs x.2)]
theorem secC_snoc (l : List Sec) (x : Sec) : secC (l ++ [x]) = secC l ++ [.int .u8 (x.1.toNat : Int), .string (bs x.2)] := by simp [secC]
theorem secC_get : ∀ (l : List Sec) (k : Nat) (x : Sec), l[k]? = some x → (secC l)[k * 2]? = some (.int .u8 (x.1.toNat : Int)) ∧ (secC l)[k * 2 + 1]? = some (.string (bs x.2))
  | [], k, x, h => by simp at h
  | y :: l, 0, x, h => by
    simp at h
    subst h
    exact ⟨rfl, rfl⟩
  | y :: l, k + 1, x, h => by
    have := secC_get l k x (by simpa using h)
    have e : secC (y :: l) = .int .u8 (y.1.toNat : Int) :: .string (bs y.2) :: secC l := rfl
    rw [e, show (k + 1) * 2 = k * 2 + 1 + 1 by omega]
    simpa using this
/-- what is owned lies there -/
theorem own_at {w : World} {base : Nat} {T : TypeId} {v : Value} {l : List Sec} (h : w.ownsRow base T 2 v l.length (secC l)) : ∃ A cap, v = .slice A l.length cap ∧ SecAt w A l := by
  rcases h.2 with ⟨hv, hn⟩ | ⟨g, cap, cur, hv, hb, hg, hle, hm, hsz, ht⟩
  · rw [hn]
    exact ⟨none, 0, hv, .inl (List.length_eq_zero_iff.1 hn)⟩
  · refine ⟨_, cap, hv, .inr ⟨g, 0, rfl, fun k x hx => ?_⟩⟩
    obtain ⟨h0, h1⟩ := secC_get l k x hx
    have key : ∀ j u, (secC l)[j]? = some u → w.cell? ⟨g, j, none⟩ = some u := fun j u hj => by
      have := h.cells (g := g) (by rw [hv]; rfl) j u hj
      have hadd : (⟨g, 0, none⟩ : Addr).add j = ⟨g, j, none⟩ := by unfold Addr.add; split <;> simp_all
      rwa [hadd] at this
    rw [Nat.zero_add]
    exact ⟨key _ _ h0, key _ _ h1⟩
theorem own_len {w : World} {base : Nat} {T : TypeId} {v : Value} {l : List Sec} (h : w.ownsRow base T 2 v l.length (secC l)) : l.length ≤ maxLen := by
  rcases h.2 with ⟨_, hn⟩ | ⟨g, cap, cur, _, _, _, hle, hm, _, _⟩
  · rw [hn]; exact Nat.zero_le _
  · omega
theorem own_keptB {w w' : World} {g : Nat} {T : TypeId} {v : Value} {l : List Sec} (h : w.ownsRow (g + 1) T 2 v l.length (secC l)) (hk : Kept (oneB g) w w') : w'.ownsRow (g + 1) T 2 v l.length (secC l) := by
  refine h.kept (row := some g) ⟨hk.os, hk.tape, hk.output, hk.size, fun k hl hne => hk.block k hl (fun e => hne (by have e' : k = g := e; rw [e']))⟩ ?_
  cases hv : v.ownBlock with
  | none => exact .inl rfl
  | some b =>
    refine .inr (fun e => ?_)
    have := (h.lt b hv).1
    cases e
    omega
theorem own_keptN {w w' : World} {g : Nat} {T : TypeId} {v : Value} {l : List Sec} (h : w.ownsRow (g + 1) T 2 v l.length (secC l)) (hk : Kept noB w w') : w'.ownsRow (g + 1) T 2 v l.length (secC l) := own_keptB h (hk.mono (fun _ _ e => e.elim))
theorem snum {w0 w : World} {g : Nat} {l : List UInt8} {b : Bool} (h : RdS w0 w g l b) (n : Int) (h1 : 1 ≤ n) (h8 : n ≤ 8) : Calls Try.prog 43 #[.pointer (some ⟨g, 0, none⟩), .int .i64 n] w fun e w' => e = .returned (.int .u64 ((numU (rawOut l b n) : Nat) : Int)) ∧ RdS w0 w' g (rawRest l b n) (rawBad l b n) ∧ Kept (oneB g) w w' := by
  refine (num_calls g l b n w h.1 h.2.2.2).mono ?_
  rintro e w' ⟨rfl, hr, hk⟩
  rw [numSize_in n ⟨h1, h8⟩] at hr ⊢
  exact ⟨rfl, h.turned hr hk (rawRest_le l b n), hk⟩
theorem sraw {w0 w : World} {g : Nat} {l : List UInt8} {b : Bool} (h : RdS w0 w g l b) (n : Int) : Calls Try.prog 42 #[.pointer (some ⟨g, 0, none⟩), .int .i64 n] w fun e w' => e = .returned (.string (bs (rawOut l b n))) ∧ RdS w0 w' g (rawRest l b n) (rawBad l b n) ∧ Kept (oneB g) w w' := by
  refine (raw_calls g l b n w h.1 h.2.2.2).mono ?_
  rintro e w' ⟨rfl, hr, hk⟩
  exact ⟨rfl, h.turned hr hk (rawRest_le l b n), hk⟩
def restOf (w : World) (g : Nat) : Nat := match w.cell? ⟨g, 0, none⟩ with | some (.string s) => s.size | _ => 0
theorem restOf_rd {w0 w : World} {g : Nat} {l : List UInt8} {b : Bool} (h : RdS w0 w g l b) : restOf w g = l.length := by
  have : w.cell? ⟨g, 0, none⟩ = some (.string (bs l)) := h.1.cell 0
  simp [restOf, this, bs_size]
theorem snumA {w0 w : World} {g : Nat} (A R : List UInt8) (h : RdS w0 w g (A ++ R) false) (n : Int) (hn : n = A.length) (h1 : 1 ≤ n) (h8 : n ≤ 8) : Calls Try.prog 43 #[.pointer (some ⟨g, 0, none⟩), .int .i64 n] w fun e w' => e = .returned (.int .u64 ((numU A : Nat) : Int)) ∧ RdS w0 w' g R false ∧ Kept (oneB g) w w' := by
  obtain ⟨e1, e2, e3⟩ := raw_pre A R n hn
  have := snum h n h1 h8
  rwa [e1, e2, e3] at this
theorem srawA {w0 w : World} {g : Nat} (A R : List UInt8) (h : RdS w0 w g (A ++ R) false) (n : Int) (hn : n = A.length) : Calls Try.prog 42 #[.pointer (some ⟨g, 0, none⟩), .int .i64 n] w fun e w' => e = .returned (.string (bs A)) ∧ RdS w0 w' g R false ∧ Kept (oneB g) w w' := by
  obtain ⟨e1, e2, e3⟩ := raw_pre A R n hn
  have := sraw h n
  rwa [e1, e2, e3] at this
theorem RdS.grown {w0 w w' : World} {g : Nat} {l : List UInt8} {b : Bool} {row : Option Nat} (h : RdS w0 w g l b) (hg : w.grownBy w' row) (hr : ∀ k, row = some k → g + 1 ≤ k) : RdS w0 w' g l b :=
  ⟨(hg.block g h.1.lt (fun e => by have := hr g e.symm; omega)).trans h.1, h.2.1.grown hg (fun k e hlt => by have := hr k e; have := h.2.2.1; omega), h.2.2⟩
theorem RdS.alloc1 {w0 w : World} {g : Nat} {l : List UInt8} {b : Bool} (h : RdS w0 w g l b) (o : Obj) : RdS w0 (w.alloc o) g l b := h.kept ((Kept.refl _ _).alloc o)
theorem one_sec (a : Int) (s : ByteArray) : ∀ u ∈ [Value.int .u8 a, Value.string s], u.oneCell' = true := by
  intro u hu
  simp at hu
  rcases hu with rfl | rfl <;> rfl
theorem u8_wrap (x : UInt8) : IntKind.u8.wrap ((x.toNat : Nat) : Int) = (x.toNat : Int) := by
  have := x.toNat_lt
  rw [IntKind.wrap_u8]
  omega
theorem i64_wrap_nat (n : Nat) (h : n ≤ 1000000) : IntKind.i64.wrap (n : Int) = (n : Int) := by
  rw [IntKind.wrap_i64]
  omega
theorem secInfo : (Try.prog.info? 107).map (fun i => (i.zero, i.size, i.bytes)) = some (some (.agg #[.int .u8 0, .string ByteArray.empty]), 2, 24) := by kernel_rfl
set_option maxRecDepth 100000 in
set_option maxHeartbeats 4000000 in
theorem sections_calls (l : List UInt8) (w : World) (hl : l.length ≤ 1000000) :
    Calls Try.prog 52 #[.string (bs l)] w fun e w' => ∃ A cap, e = .returned (.tuple #[.slice A (secS l).length cap, .int .i64 (secE l : Nat)]) ∧ SecAt w' A (secS l) ∧ (secS l).length ≤ maxLen ∧ Kept noB w w' := by
  obtain ⟨i0, hi, hz0, hz1, hz2⟩ := info_parts secInfo
  have HI := Lib.hid hi
  have HZ0 := Lib.hid hz0
  have HZ1 := Lib.hid hz1
  have HZ2 := Lib.hid hz2
  clear hi hz0 hz1 hz2
  go_enter Try.func52, Try.ntmps52
  go_wp2_with fail
  refine (read_s (Kept.refl noB w) l (by omega)).mono ?_
  rintro e w1 ⟨g, rfl, hr1⟩
  go_wp2_with fail
  go_loopw [4] (fun v wr => ∃ done rest, Come l done rest ∧ wr.ownsRow (g + 1) 107 2 v done.length (secC done) ∧ RdS w wr g rest false) (fun _ wr => restOf wr g)
  case atStart => exact ⟨[], l, come_start l, World.ownsRow_nil _ _ _ _, hr1⟩
  case round =>
    obtain ⟨done, rest, hcome, hown, hr⟩ := hrel
    clear hr1
    match rest with
    | [] =>
      have q := left_s hr
      go_wp2_with fail
      refine q.mono ?_
      rintro e w2 ⟨rfl, rfl⟩
      obtain ⟨A, cap, rfl, hsec⟩ := own_at hown
      have hlen := own_len hown
      have hall := come_end hcome
      obtain ⟨hE, hS⟩ := secE_some hall
      have q2 := rising_calls done A cap wr hsec hlen
      clear hcome hown q
      go_wp2_with fail
      refine q2.mono ?_
      rintro e w2 ⟨rfl, d, rfl⟩
      cases hrb : risingB done with
      | true =>
        rw [hrb, if_pos rfl] at hE hS
        have HE := Lib.hid hE
        have HS := Lib.hid hS
        clear hE hS
        go_wp2_with fail
        go_ret2
        exact ⟨A, cap, by rw [HE.out, HS.out]; rfl, by rw [HS.out]; exact hsec.kept ((Kept.refl _ _).drewN d), by rw [HS.out]; exact hlen, hr.2.1.drewN d⟩
      | false =>
        rw [hrb, if_neg Bool.false_ne_true] at hE hS
        have HE := Lib.hid hE
        have HS := Lib.hid hS
        clear hE hS
        go_wp2_with fail
        go_ret2
        exact ⟨none, 0, by rw [HE.out, HS.out]; rfl, by rw [HS.out]; exact .inl rfl, by rw [HS.out]; exact Nat.zero_le _, hr.2.1.drewN d⟩
    | x :: t =>
      have q := left_s hr
      go_wp2_with fail
      refine q.mono ?_
      rintro e w2 ⟨rfl, rfl⟩
      have hpos : (0 : Int) < ((x :: t).length : Int) := by simp
      have n1 : numU [x] = x.toNat := by simp [numU]
      have hx8 := u8_wrap x
      have q1 := snumA [x] t hr 1 rfl (by omega) (by omega)
      rw [n1] at q1
      have hlr := restOf_rd hr
      have HLR := Lib.hid hlr
      clear q hr hlr
      go_wp2_with fail
      refine q1.mono ?_
      rintro e w2 ⟨rfl, hr2, hk2⟩
      have own2 := own_keptB hown hk2
      clear q1 hk2 hown
      go_wp2_with fail
      have hdl := hcome.2
      by_cases h4 : t.length < 4
      · have hnone := come_short hcome h4
        have q2 := snum hr2 4 (by omega) (by omega)
        have eb : rawBad t false 4 = true := by simp [rawBad]; omega
        have eo : rawOut t false 4 = [] := by simp [rawOut, eb]
        have er : rawRest t false 4 = t := by simp [rawRest, eb]
        have e0 : ((numU [] : Nat) : Int) = 0 := rfl
        rw [eb, eo, er, e0] at q2
        clear hr2 eb eo er e0
        refine q2.mono ?_
        rintro e w3 ⟨rfl, hr3, hk3⟩
        have own3 := own_keptB own2 hk3
        clear q2 hk3 own2
        have q3 := left_s hr3
        go_wp2_with fail
        refine q3.mono ?_
        rintro e w4 ⟨rfl, rfl⟩
        have h0 : decide ((t.length : Int) < 0) = false := by simp
        have wl : IntKind.u64.wrap (t.length : Int) = (t.length : Int) := u64_wrap_nat _ (by simp at hdl; omega)
        have q4 := sraw hr3 0
        have eb : rawBad t true 0 = true := rfl
        have eo : rawOut t true 0 = [] := rfl
        have er : rawRest t true 0 = t := rfl
        rw [eb, eo, er] at q4
        clear eb eo er q3
        go_wp2_with fail
        refine q4.mono ?_
        rintro e w5 ⟨rfl, hr5, hk5⟩
        have own5 := own_keptB own3 hk5
        have hba : g + 1 ≤ (w5.alloc (.cells #[.int .u8 (x.toNat : Int), .string (bs [])] 107)).heap.size := by have := hr5.1.lt; simp; omega
        clear q4 hk5 hr3 own3 hcome
        go_wp2_with (at_builtin; refine wpList_append_lies _ rfl (.tmp 23) (.tmp 30) 64 rfl (g + 1) 107 i0 (.agg #[.int .u8 0, .string ByteArray.empty]) 2 24 Try.underlying64 HI.out HZ0.out HZ1.out HZ2.out rfl (by decide) _ _ _ rfl (own5.alloc _) ⟨w5.heap.size, 0, none⟩ 1 1 [.int .u8 (x.toNat : Int), .string (bs [])] rfl rfl (World.news_of_block (heap_alloc_new w5 _)) (one_sec _ _) (by decide) (by unfold maxLen; omega) (by omega) hba _ rfl ?_; intro g6 cap6 w6 own6 grow6 hat6 hlt6)
        have hr6 := (hr5.alloc1 (.cells #[.int .u8 (x.toNat : Int), .string (bs [])] 107)).grown grow6 (fun k e => (own5.lt k e).1)
        have q5 := end_s hr6
        have e2 : endV t true = 2 := rfl
        rw [e2] at q5
        obtain ⟨hE, hS⟩ := secE_none hnone
        have HE := Lib.hid hE
        have HS := Lib.hid hS
        clear hE hS hr5 own5 hba hnone
        refine q5.mono ?_
        rintro e w7 ⟨rfl, rfl⟩
        go_wp2_with fail
        go_ret2
        exact ⟨none, 0, by rw [HE.out, HS.out]; rfl, by rw [HS.out]; exact .inl rfl, by rw [HS.out]; exact Nat.zero_le _, hr6.2.1⟩
      · obtain ⟨A4, u, rfl, hA4⟩ : ∃ A4 u, t = A4 ++ u ∧ A4.length = 4 := ⟨t.take 4, t.drop 4, (List.take_append_drop 4 t).symm, by simp; omega⟩
        have tk : (A4 ++ u).take 4 = A4 := by rw [← hA4]; exact List.take_left
        have dk : (A4 ++ u).drop 4 = u := by rw [← hA4]; exact List.drop_left
        have hll : (A4 ++ u).length = 4 + u.length := by rw [List.length_append, hA4]
        have cl := fun h => come_long hcome (by omega) h
        have cn := fun h => come_next hcome (by omega) h
        rw [tk, hll] at cl cn
        rw [dk] at cn
        have hdl2 : 5 * done.length + (5 + u.length) ≤ l.length := by simp [hA4] at hdl; omega
        have hNlt := numU_lt A4
        have q2 := snumA A4 u hr2 4 (by rw [hA4]; rfl) (by omega) (by omega)
        clear hr2 hdl h4 tk dk hpos
        generalize numU A4 = N at *
        refine q2.mono ?_
        rintro e w3 ⟨rfl, hr3, hk3⟩
        have own3 := own_keptB own2 hk3
        clear q2 hk3 own2 hcome
        have q3 := left_s hr3
        have wl : IntKind.u64.wrap (u.length : Int) = (u.length : Int) := u64_wrap_nat _ (by omega)
        go_wp2_with fail
        refine q3.mono ?_
        rintro e w4 ⟨rfl, rfl⟩
        by_cases hN : N ≤ u.length
        · have hc' := cn (by omega)
          have hNn : ((u.length : Nat) : Int) ≥ (N : Int) := by omega
          have hNd : decide ((u.length : Int) < (N : Int)) = false := by simp; omega
          have wn : IntKind.i64.wrap (N : Int) = (N : Int) := i64_wrap_nat _ (by omega)
          obtain ⟨D, R, hu, hD⟩ : ∃ D R, u = D ++ R ∧ D.length = N := ⟨u.take N, u.drop N, (List.take_append_drop N u).symm, by simp; omega⟩
          have tk : (D ++ R).take N = D := by rw [← hD]; exact List.take_left
          have dk : (D ++ R).drop N = R := by rw [← hD]; exact List.drop_left
          rw [hu, tk, dk] at hc'
          have q4 := srawA D R (by rw [hu] at hr3; exact hr3) N (by rw [hD])
          have hul : u.length = D.length + R.length := by rw [hu, List.length_append]
          clear cl cn q3 tk dk hu
          have HUL := Lib.hid hul
          clear hul hD
          go_wp2_with fail
          refine q4.mono ?_
          rintro e w5 ⟨rfl, hr5, hk5⟩
          have own5 := own_keptB own3 hk5
          have hba : g + 1 ≤ (w5.alloc (.cells #[.int .u8 (x.toNat : Int), .string (bs D)] 107)).heap.size := by have := hr5.1.lt; simp; omega
          clear q4 hk5 hr3 own3
          go_wp2_with (at_builtin; refine wpList_append_lies _ rfl (.tmp 23) (.tmp 30) 64 rfl (g + 1) 107 i0 (.agg #[.int .u8 0, .string ByteArray.empty]) 2 24 Try.underlying64 HI.out HZ0.out HZ1.out HZ2.out rfl (by decide) _ _ _ rfl (own5.alloc _) ⟨w5.heap.size, 0, none⟩ 1 1 [.int .u8 (x.toNat : Int), .string (bs D)] rfl rfl (World.news_of_block (heap_alloc_new w5 _)) (one_sec _ _) (by decide) (by unfold maxLen; omega) (by omega) hba _ rfl ?_; intro g6 cap6 w6 own6 grow6 hat6 hlt6)
          have hr6 := (hr5.alloc1 (.cells #[.int .u8 (x.toNat : Int), .string (bs D)] 107)).grown grow6 (fun k e => (own5.lt k e).1)
          have q5 := end_s hr6
          have e2 : decide (endV R false = 2) = false := by
            unfold endV
            simp only [Bool.false_eq_true, if_false]
            split <;> rfl
          have e3 : ¬ endV R false = 2 := by simpa using e2
          have e4 : (endV R false == 2) = false := by simpa using e2
          generalize endV R false = E at *
          have own7 : w6.ownsRow (g + 1) 107 2 (.slice (some ⟨g6, 0, none⟩) (done.length + 1) cap6) (done ++ [(x, D)]).length (secC (done ++ [(x, D)])) := by
            rw [secC_snoc, List.length_append]
            exact own6
          have hlr6 := restOf_rd hr6
          clear hr5 own5 hba own6
          refine q5.mono ?_
          rintro e w7 ⟨rfl, rfl⟩
          go_wp2_with fail
          refine ⟨⟨done ++ [(x, D)], R, hc', own7, hr6⟩, ?_⟩
          have := HUL.out
          rw [hlr6, HLR.out]
          simp
          omega
        · have hnone := cl (by omega)
          have hNd : ((u.length : Nat) : Int) < (N : Int) := by omega
          obtain ⟨hE, hS⟩ := secE_none hnone
          have HE := Lib.hid hE
          have HS := Lib.hid hS
          clear hE hS hnone cl cn
          go_wp2_with fail
          go_ret2
          exact ⟨none, 0, by rw [HE.out, HS.out]; rfl, by rw [HS.out]; exact .inl rfl, by rw [HS.out]; exact Nat.zero_le _, hr3.2.1⟩
end Go.Proofs.Ytclnginkplhlhaa
