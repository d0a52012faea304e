/- The walk of girderlaw21.both. Condition: the number of sections. (Printed by wip/mk8.py.) -/
import Derived.Test.YtclnginkplhlhaaTlv5
import Derived.Test.YtclnginkplhlhaaValS
namespace Go.Proofs.Ytclnginkplhlhaa
open Go.RowKit
set_option linter.unusedSimpArgs false
def SameT (T : TypeId) (w w' : World) : Prop := ∀ (b : Nat) (cs : Array Value), w.heap[b]? = some (Obj.cells cs T (0, 0)) → w'.heap[b]? = some (Obj.cells cs T (0, 0))
theorem SameT.of_kept {T : TypeId} {w w' : World} (h : Kept noB w w') : SameT T w w' := fun b _ hb => (h.block b (Array.getElem?_eq_some_iff.1 hb).1 (fun e => e)).trans hb
theorem SameT.of_grown {T T' : TypeId} {w w' : World} {base size n : Nat} {v : Value} {xs : List Value} (hne : T' ≠ T) (h : w.ownsRow base T size v n xs) (hg : w.grownBy w' v.ownBlock) : SameT T' w w' := by
  intro b cs hb
  refine (hg.block b (Array.getElem?_eq_some_iff.1 hb).1 (fun e => ?_)).trans hb
  rcases h.2 with ⟨rfl, _⟩ | ⟨g, cap, cur, rfl, _, hgg, _⟩
  · simp [Value.ownBlock] at e
  · simp [Value.ownBlock] at e
    subst e
    rw [hb] at hgg
    simp at hgg
    exact hne hgg.2
theorem own_same {T : TypeId} {w w' : World} {base size n : Nat} {v : Value} {xs : List Value} (h : w.ownsRow base T size v n xs) (hs : SameT T w w') : w'.ownsRow base T size v n xs := by
  refine ⟨h.1, ?_⟩
  rcases h.2 with hn | ⟨g, cap, cur, rfl, hb, hgg, rest⟩
  · exact .inl hn
  · exact .inr ⟨g, cap, cur, rfl, hb, hs _ _ hgg, rest⟩
def boE (base k : Nat) (xs : List Value) (a : Nat) (s : ByteArray) (i : Nat) (f : Nat → Bool) (w : World) (v : Value) : Prop := match i with
  | 8 => f 9 = false → ∃ g, v = .slice (some ⟨g, 0, none⟩) 1 1 ∧ Blk w g 107 [.int .u8 (a : Int), .string s]
  | 18 => f 19 = false → ∃ g, v = .slice (some ⟨g, 0, none⟩) 1 1 ∧ Blk w g 108 [.int .u8 (a : Int), .string s]
  | 9 => w.ownsRow base 107 2 v (k + 1) (xs ++ [.int .u8 (a : Int), .string s])
  | 20 => w.ownsRow base 107 2 v (k + 1) (xs ++ [.int .u8 (a : Int), .string s])
  | 19 => w.ownsRow base 108 2 v (k + 1) (xs ++ [.int .u8 (a : Int), .string s])
  | 21 => w.ownsRow base 108 2 v (k + 1) (xs ++ [.int .u8 (a : Int), .string s])
  | _ => True
def boS (val : Nat → Option Value) (base k : Nat) (xs : List Value) (a : Nat) (s : ByteArray) (i : Nat) (f : Nat → Bool) (w : World) (v : Value) : Prop := match val i with | some u => v = u | none => boE base k xs a s i f w v
def boW (w0 : World) (base k : Nat) (xs : List Value) (v4 v5 : Value) (f : Nat → Bool) (w : World) : Prop :=
  Kept noB w0 w ∧ (f 20 = true → f 0 = true ∧ f 9 = true) ∧ (f 21 = true → f 10 = true ∧ f 19 = true) ∧ (f 9 = false → w.ownsRow base 107 2 v4 k xs) ∧ (f 19 = false → w.ownsRow base 108 2 v5 k xs)
section
variable {val : Nat → Option Value} {base k a : Nat} {xs : List Value} {s : ByteArray} {w0 w w' : World} {v4 v5 : Value} {f : Nat → Bool} {a0 a1 : Act} {ds : List (Nat × Nat)}
theorem upd_f {i j : Nat} (h : (decide (j = i) || f j) = false) : f j = false := by simp at h; exact h.2
theorem boS_keep {i p : Nat} {v : Value} (hA : SameT 107 w w' ∨ (i = 9 ∧ p ≠ 20 ∧ p ≠ 9)) (hB : SameT 108 w w' ∨ (i = 19 ∧ p ≠ 21 ∧ p ≠ 19))
    (h : boS val base k xs a s p f w v) : boS val base k xs a s p (fun j => decide (j = i) || f j) w' v := by
  unfold boS at h ⊢
  cases hv : val p with
  | some u => rw [hv] at h; exact h
  | none =>
    rw [hv] at h
    simp only at h ⊢
    unfold boE at h ⊢
    split at h
    · intro h9
      rcases hA with hs | ⟨rfl, _⟩
      · obtain ⟨g, e, hb⟩ := h (upd_f h9)
        exact ⟨g, e, hs _ _ hb⟩
      · simp at h9
    · intro h9
      rcases hB with hs | ⟨rfl, _⟩
      · obtain ⟨g, e, hb⟩ := h (upd_f h9)
        exact ⟨g, e, hs _ _ hb⟩
      · simp at h9
    · rcases hA with hs | ⟨_, _, h9⟩
      · exact own_same h hs
      · exact absurd rfl h9
    · rcases hA with hs | ⟨_, h9, _⟩
      · exact own_same h hs
      · exact absurd rfl h9
    · rcases hB with hs | ⟨_, _, h9⟩
      · exact own_same h hs
      · exact absurd rfl h9
    · rcases hB with hs | ⟨_, h9, _⟩
      · exact own_same h hs
      · exact absurd rfl h9
    · trivial
theorem boW_kept {i : Nat} (_h9 : i ≠ 9) (_h19 : i ≠ 19) (h20 : i = 20 → f 0 = true ∧ f 9 = true) (h21 : i = 21 → f 10 = true ∧ f 19 = true) (h : boW w0 base k xs v4 v5 f w) (hk : Kept noB w w') : boW w0 base k xs v4 v5 (fun j => decide (j = i) || f j) w' := by
  obtain ⟨a1, a2, a3, a4, a5⟩ := h
  refine ⟨a1.no hk, fun e => ?_, fun e => ?_, fun e => own_same (a4 (upd_f e)) (.of_kept hk), fun e => own_same (a5 (upd_f e)) (.of_kept hk)⟩
  · simp only [Bool.or_eq_true, decide_eq_true_eq] at e ⊢
    rcases e with e | e
    · exact ⟨.inr (h20 e.symm).1, .inr (h20 e.symm).2⟩
    · exact ⟨.inr (a2 e).1, .inr (a2 e).2⟩
  · simp only [Bool.or_eq_true, decide_eq_true_eq] at e ⊢
    rcases e with e | e
    · exact ⟨.inr (h21 e.symm).1, .inr (h21 e.symm).2⟩
    · exact ⟨.inr (a3 e).1, .inr (a3 e).2⟩
theorem boW_9 (hb : w0.heap.size ≤ base) (h : boW w0 base k xs v4 v5 f w) (h9 : f 9 = false) (hg : w.grownBy w' v4.ownBlock) : boW w0 base k xs v4 v5 (fun j => decide (j = 9) || f j) w' := by
  obtain ⟨a1, a2, a3, a4, a5⟩ := h
  have o4 := a4 h9
  refine ⟨a1.grown hg (fun k e hlt => by have := (o4.lt k e).1; omega), fun e => ?_, fun e => ?_, fun e => by simp at e, fun e => own_same (a5 (upd_f e)) (SameT.of_grown (by decide) o4 hg)⟩
  · simp at e
    simp [a2 e]
  · simp at e
    simp [a3 e]
theorem boW_19 (hb : w0.heap.size ≤ base) (h : boW w0 base k xs v4 v5 f w) (h9 : f 19 = false) (hg : w.grownBy w' v5.ownBlock) : boW w0 base k xs v4 v5 (fun j => decide (j = 19) || f j) w' := by
  obtain ⟨a1, a2, a3, a4, a5⟩ := h
  have o4 := a5 h9
  refine ⟨a1.grown hg (fun k e hlt => by have := (o4.lt k e).1; omega), fun e => ?_, fun e => ?_, fun e => own_same (a4 (upd_f e)) (SameT.of_grown (by decide) o4 hg), fun e => by simp at e⟩
  · simp at e
    simp [a2 e]
  · simp at e
    simp [a3 e]
theorem BS.put (hI : Slots a0 ds (boS val base k xs a s) (boW w0 base k xs v4 v5) f a1 w) {i d : Nat} {v : Value} (hok : slotsOk a0.tmps.size ds = true) (hd : (i, d) ∈ ds) (hS : ∀ f, boS val base k xs a s i f w' v)
    (h9 : i ≠ 9) (h19 : i ≠ 19) (h20 : i = 20 → f 0 = true ∧ f 9 = true) (h21 : i = 21 → f 10 = true ∧ f 19 = true) (hk : Kept noB w w') : Slots a0 ds (boS val base k xs a s) (boW w0 base k xs v4 v5) (fun j => decide (j = i) || f j) (a1.put (some d) v) w' :=
  hI.put hok hd (boW_kept h9 h19 h20 h21 hI.world hk) (hS _) (fun _ _ _ _ h => boS_keep (.inl (.of_kept hk)) (.inl (.of_kept hk)) h)
theorem BS.step (hI : Slots a0 ds (boS val base k xs a s) (boW w0 base k xs v4 v5) f a1 w) {i d : Nat} {v : Value} (hok : slotsOk a0.tmps.size ds = true) (hd : (i, d) ∈ ds) (hv : val i = some v)
    (h9 : i ≠ 9) (h19 : i ≠ 19) (h20 : i ≠ 20) (h21 : i ≠ 21) (hk : Kept noB w w') : Slots a0 ds (boS val base k xs a s) (boW w0 base k xs v4 v5) (fun j => decide (j = i) || f j) (a1.put (some d) v) w' :=
  BS.put hI hok hd (fun _ => by unfold boS; rw [hv]) h9 h19 (fun e => absurd e h20) (fun e => absurd e h21) hk
end
/-- what both cuts off a section -/
def cutS (l : List Sec) : List Sec := l.map fun x => (x.1, x.2.take 40)
theorem cutS_take (l : List Sec) (k : Nat) (x : Sec) (h : l[k]? = some x) : cutS (l.take (k + 1)) = cutS (l.take k) ++ [(x.1, x.2.take 40)] := by
  unfold cutS
  rw [List.take_add_one, h]
  simp
theorem cutS_len (l : List Sec) (k : Nat) (h : k ≤ l.length) : (cutS (l.take k)).length = k := by
  unfold cutS
  simp
  omega
theorem rsecInfo : (Try.prog.info? 108).map (fun i => (i.zero, i.size, i.bytes)) = some (some (.agg #[.int .u8 0, .string ByteArray.empty]), 2, 24) := by kernel_rfl
def bo6D : List (Nat × Nat) := [(0, 18), (1, 19), (2, 20), (3, 21), (4, 22), (5, 23), (6, 24), (7, 25), (8, 26), (9, 27), (10, 28), (11, 29), (12, 30), (13, 7)]
def bo6V (dl dt : List UInt8) (bb off n cap k m : Nat) : Nat → Option Value
  | 0 => some (.slice (some ⟨bb, off, none⟩) n cap)
  | 1 => some (.int .i64 (k : Int))
  | 2 => some (.pointer (some ⟨bb, off + k * 2, none⟩))
  | 3 => some (.pointer (some ⟨bb, off + k * 2 + 1, none⟩))
  | 4 => some (.string (bs dl))
  | 5 => some (.slice (some ⟨bb, off, none⟩) n cap)
  | 6 => some (.int .i64 (k : Int))
  | 7 => some (.pointer (some ⟨bb, off + k * 2, none⟩))
  | 8 => some (.pointer (some ⟨bb, off + k * 2 + 1, none⟩))
  | 9 => some (.string (bs dl))
  | 10 => some (.int .i64 (dl.length : Int))
  | 11 => some (.int .i64 (m : Int))
  | 12 => some (.string (bs dt))
  | 13 => some (.string (bs dt))
  | _ => none
def bo7D : List (Nat × Nat) := [(0, 31), (1, 32), (2, 33), (3, 34), (4, 35), (5, 36), (6, 37), (7, 38), (8, 39), (9, 40), (10, 41), (11, 42), (12, 43), (13, 44), (14, 45), (15, 46), (16, 47), (17, 48), (18, 49), (19, 50), (20, 4), (21, 5)]
def bo7V (u4 u5 : Value) (dt : List UInt8) (bb off n cap k a : Nat) : Nat → Option Value
  | 0 => some (u4)
  | 1 => some (.slice (some ⟨bb, off, none⟩) n cap)
  | 2 => some (.int .i64 (k : Int))
  | 3 => some (.pointer (some ⟨bb, off + k * 2, none⟩))
  | 4 => some (.pointer (some ⟨bb, off + k * 2, none⟩))
  | 5 => some (.int .u8 (a : Int))
  | 6 => some (.string (bs dt))
  | 7 => some (.agg #[.int .u8 (a : Int), .string (bs dt)])
  | 10 => some (u5)
  | 11 => some (.slice (some ⟨bb, off, none⟩) n cap)
  | 12 => some (.int .i64 (k : Int))
  | 13 => some (.pointer (some ⟨bb, off + k * 2, none⟩))
  | 14 => some (.pointer (some ⟨bb, off + k * 2, none⟩))
  | 15 => some (.int .u8 (a : Int))
  | 16 => some (.string (bs dt))
  | 17 => some (.agg #[.int .u8 (a : Int), .string (bs dt)])
  | _ => none
set_option maxRecDepth 100000 in
set_option maxHeartbeats 8000000 in
theorem both_calls (l : List Sec) (A : Option Addr) (cap : Nat) (w : World) (hA : SecAt w A l) (hn : l.length ≤ maxLen) :
    Calls Try.prog 24 #[.slice A l.length cap] w fun e w' => ∃ A1 c1 A2 c2, e = .returned (.tuple #[.slice A1 (cutS (l.take 8)).length c1, .slice A2 (cutS (l.take 8)).length c2]) ∧ SecAt w' A1 (cutS (l.take 8)) ∧ SecAt w' A2 (cutS (l.take 8)) ∧ Kept noB w w' := by
  have hn' : l.length ≤ 9223372036854775807 := by unfold maxLen at hn; exact hn
  go_enter Try.func24, Try.ntmps24
  go_wp2_with fail
  go_loopw [4, 5, 6] (fun v4 v5 i wr => ∃ k : Nat, k ≤ 8 ∧ k ≤ l.length ∧ i = .int .i64 k ∧ wr.ownsRow w.heap.size 107 2 v4 k (secC (cutS (l.take k))) ∧ wr.ownsRow w.heap.size 108 2 v5 k (secC (cutS (l.take k))) ∧ Kept noB w wr) (fun _ _ i _ => 8 - (intOf i).toNat)
  case atStart => exact ⟨0, by omega, by omega, rfl, World.ownsRow_nil _ _ _ _, World.ownsRow_nil _ _ _ _, Kept.refl _ _⟩
  case round =>
    obtain ⟨k, hk8, hkl, rfl, o4, o5, hk⟩ := hrel
    by_cases hlt : k < l.length ∧ k < 8
    · obtain ⟨hlt1, hlt2⟩ := hlt
      have hlt1' : (k : Int) < (l.length : Int) := by omega
      have hlt2' : (k : Int) < 8 := by omega
      have hA2 := hA
      obtain ⟨bb, off, rfl, hc⟩ : ∃ bb off, A = some ⟨bb, off, none⟩ ∧ ∀ k x, l[k]? = some x → w.cell? ⟨bb, off + k * 2, none⟩ = some (.int .u8 (x.1.toNat : Int)) ∧ w.cell? ⟨bb, off + k * 2 + 1, none⟩ = some (.string (bs x.2)) := by
        rcases hA2 with h | h
        · subst h
          simp at hlt1
        · exact h
      obtain ⟨x, hx⟩ : ∃ x, l[k]? = some x := ⟨_, List.getElem?_eq_getElem hlt1⟩
      obtain ⟨c0, c1⟩ := hc _ _ hx
      have hct := cutS_take l k x hx
      have hcl := cutS_len l k hkl
      clear hc hA2 hx
      obtain ⟨a, ha⟩ : ∃ a : Nat, x.1.toNat = a := ⟨_, rfl⟩
      obtain ⟨dl, hd⟩ : ∃ dl, x.2 = dl := ⟨_, rfl⟩
      rw [hd] at c1 hct
      rw [ha] at c0
      have W0 := Lib.hid c0
      replace c0 := hk.cell c0 (fun e => e)
      replace c1 := hk.cell c1 (fun e => e)
      have hkn1 : (k : Int) < (l.length : Int) := by omega
      obtain ⟨m, hmm, hms⟩ : ∃ m : Nat, ((dl.length ≤ 40 ∧ m = dl.length) ∨ (40 < dl.length ∧ m = 40)) ∧ dl.take m = dl.take 40 := by
        by_cases h : dl.length ≤ 40
        · exact ⟨dl.length, .inl ⟨h, rfl⟩, by rw [List.take_of_length_le h, List.take_length]⟩
        · exact ⟨40, .inr ⟨by omega, rfl⟩, rfl⟩
      have hxt : (bs dl).extract 0 m = bs (dl.take 40) := by rw [bs_take, hms]
      have hmle : m ≤ (bs dl).size := by rw [bs_size]; omega
      have HCT := Lib.hid hct
      have HCL := Lib.hid hcl
      have HX1 := Lib.hid ha
      have HO4 := Lib.hid o4
      have HO5 := Lib.hid o5
      have HA := Lib.hid hA
      clear hct hcl o4 o5 hA hms
      generalize dl.take 40 = dt at *
      have hex : ∀ (i : Nat) (w w' : World) (v : Value), Kept noB w w' → (fun (_ : Nat) (_ : World) (_ : Value) => True) i w v → (fun (_ : Nat) (_ : World) (_ : Value) => True) i w' v := fun _ _ _ _ _ _ => trivial
      go_wp2_with fail
      refine wp_region_inv (by kernel_rfl) (by kernel_rfl) (Slots _ bo6D (valS (bo6V dl dt bb off l.length cap k m) (fun _ _ _ => True)) (fun _ wy => Kept noB wr wy)) (Slots.start (Kept.refl _ _).drew) ?_ ?_
      · intro f a' wz hI i o ho hfi hall
        have hi : i < 14 := (Array.getElem?_eq_some_iff.1 ho).1
        have hW := hI.world
        rcases (by omega : i = 0 ∨ i = 1 ∨ i = 2 ∨ i = 3 ∨ i = 4 ∨ i = 5 ∨ i = 6 ∨ i = 7 ∨ i = 8 ∨ i = 9 ∨ i = 10 ∨ i = 11 ∨ i = 12 ∨ i = 13) with rfl | rfl | rfl | rfl | rfl | rfl | rfl | rfl | rfl | rfl | rfl | rfl | rfl | rfl
        all_goals
          simp only [List.getElem?_toArray, List.getElem?_cons_zero, List.getElem?_cons_succ, Option.some.injEq] at ho
          subst ho
        · have e0 : a'.eval (.tmp 0) = .slice (some ⟨bb, off, none⟩) l.length cap := hI.old (by decide)
          refine wp_value (w' := wz) ?_ (VS.step hI (d := 18) (by kernel_rfl) (by decide) rfl (hW.no (Kept.refl _ _)) (Kept.refl _ _) hex)
          (unfold execOp; simp only [List.map_toArray, List.map_cons, List.map_nil, e0]; (try simp [go_sem, e0]); try omega)
        · have e6 : a'.eval (.tmp 6) = .int .i64 (k : Int) := hI.old (by decide)
          refine wp_value (w' := wz) ?_ (VS.step hI (d := 19) (by kernel_rfl) (by decide) rfl (hW.no (Kept.refl _ _)) (Kept.refl _ _) hex)
          (unfold execOp; simp only [List.map_toArray, List.map_cons, List.map_nil, e6]; (try simp [go_sem, e6]); try omega)
        · have f0 : f 0 = true := hall ⟨0, .data⟩ (by simp) rfl
          have e18 : a'.eval (.tmp 18) = .slice (some ⟨bb, off, none⟩) l.length cap := hI.eval (k := 0) (d := 18) (by decide) f0
          have f1 : f 1 = true := hall ⟨1, .data⟩ (by simp) rfl
          have e19 : a'.eval (.tmp 19) = .int .i64 (k : Int) := hI.eval (k := 1) (d := 19) (by decide) f1
          refine wp_value (w' := wz) ?_ (VS.step hI (d := 20) (by kernel_rfl) (by decide) rfl (hW.no (Kept.refl _ _)) (Kept.refl _ _) hex)
          (unfold execOp; simp only [List.map_toArray, List.map_cons, List.map_nil, e18, e19, hkn1]; (try simp [go_sem, e18, e19, hkn1]); try omega)
        · have f2 : f 2 = true := hall ⟨2, .data⟩ (by simp) rfl
          have e20 : a'.eval (.tmp 20) = .pointer (some ⟨bb, off + k * 2, none⟩) := hI.eval (k := 2) (d := 20) (by decide) f2
          refine wp_value (w' := wz) ?_ (VS.step hI (d := 21) (by kernel_rfl) (by decide) rfl (hW.no (Kept.refl _ _)) (Kept.refl _ _) hex)
          (unfold execOp; simp only [List.map_toArray, List.map_cons, List.map_nil, e20]; (try simp [go_sem, e20]); try omega)
        · have f3 : f 3 = true := hall ⟨3, .data⟩ (by simp) rfl
          have e21 : a'.eval (.tmp 21) = .pointer (some ⟨bb, off + k * 2 + 1, none⟩) := hI.eval (k := 3) (d := 21) (by decide) f3
          refine wp_value (w' := wz) ?_ (VS.step hI (d := 22) (by kernel_rfl) (by decide) rfl (hW.no (Kept.refl _ _)) (Kept.refl _ _) hex)
          (unfold execOp; simp only [List.map_toArray, List.map_cons, List.map_nil, e21, hW.cell c1 (fun e => e)]; (try simp [go_sem, e21, hW.cell c1 (fun e => e)]); try omega)
        · have e0 : a'.eval (.tmp 0) = .slice (some ⟨bb, off, none⟩) l.length cap := hI.old (by decide)
          refine wp_value (w' := wz) ?_ (VS.step hI (d := 23) (by kernel_rfl) (by decide) rfl (hW.no (Kept.refl _ _)) (Kept.refl _ _) hex)
          (unfold execOp; simp only [List.map_toArray, List.map_cons, List.map_nil, e0]; (try simp [go_sem, e0]); try omega)
        · have e6 : a'.eval (.tmp 6) = .int .i64 (k : Int) := hI.old (by decide)
          refine wp_value (w' := wz) ?_ (VS.step hI (d := 24) (by kernel_rfl) (by decide) rfl (hW.no (Kept.refl _ _)) (Kept.refl _ _) hex)
          (unfold execOp; simp only [List.map_toArray, List.map_cons, List.map_nil, e6]; (try simp [go_sem, e6]); try omega)
        · have f5 : f 5 = true := hall ⟨5, .data⟩ (by simp) rfl
          have e23 : a'.eval (.tmp 23) = .slice (some ⟨bb, off, none⟩) l.length cap := hI.eval (k := 5) (d := 23) (by decide) f5
          have f6 : f 6 = true := hall ⟨6, .data⟩ (by simp) rfl
          have e24 : a'.eval (.tmp 24) = .int .i64 (k : Int) := hI.eval (k := 6) (d := 24) (by decide) f6
          refine wp_value (w' := wz) ?_ (VS.step hI (d := 25) (by kernel_rfl) (by decide) rfl (hW.no (Kept.refl _ _)) (Kept.refl _ _) hex)
          (unfold execOp; simp only [List.map_toArray, List.map_cons, List.map_nil, e23, e24, hkn1]; (try simp [go_sem, e23, e24, hkn1]); try omega)
        · have f7 : f 7 = true := hall ⟨7, .data⟩ (by simp) rfl
          have e25 : a'.eval (.tmp 25) = .pointer (some ⟨bb, off + k * 2, none⟩) := hI.eval (k := 7) (d := 25) (by decide) f7
          refine wp_value (w' := wz) ?_ (VS.step hI (d := 26) (by kernel_rfl) (by decide) rfl (hW.no (Kept.refl _ _)) (Kept.refl _ _) hex)
          (unfold execOp; simp only [List.map_toArray, List.map_cons, List.map_nil, e25]; (try simp [go_sem, e25]); try omega)
        · have f8 : f 8 = true := hall ⟨8, .data⟩ (by simp) rfl
          have e26 : a'.eval (.tmp 26) = .pointer (some ⟨bb, off + k * 2 + 1, none⟩) := hI.eval (k := 8) (d := 26) (by decide) f8
          refine wp_value (w' := wz) ?_ (VS.step hI (d := 27) (by kernel_rfl) (by decide) rfl (hW.no (Kept.refl _ _)) (Kept.refl _ _) hex)
          (unfold execOp; simp only [List.map_toArray, List.map_cons, List.map_nil, e26, hW.cell c1 (fun e => e)]; (try simp [go_sem, e26, hW.cell c1 (fun e => e)]); try omega)
        · have f9 : f 9 = true := hall ⟨9, .data⟩ (by simp) rfl
          have e27 : a'.eval (.tmp 27) = .string (bs dl) := hI.eval (k := 9) (d := 27) (by decide) f9
          have re27 := e27
          simp only [Act.eval, Array.getD_eq_getD_getElem?] at re27
          refine wp_value (w' := wz) ?_ (VS.step hI (d := 28) (by kernel_rfl) (by decide) rfl (hW.no (Kept.refl _ _)) (Kept.refl _ _) hex)
          (unfold execOp; simp only [List.map_toArray, List.map_cons, List.map_nil, e27, re27, bs_size]; (try simp [go_sem, e27, re27, bs_size]); try omega)
        · have f10 : f 10 = true := hall ⟨10, .data⟩ (by simp) rfl
          have e28 : a'.eval (.tmp 28) = .int .i64 (dl.length : Int) := hI.eval (k := 10) (d := 28) (by decide) f10
          have re28 := e28
          simp only [Act.eval, Array.getD_eq_getD_getElem?] at re28
          refine wp_value (w' := wz) ?_ (VS.step hI (d := 29) (by kernel_rfl) (by decide) rfl (hW.no (Kept.refl _ _)) (Kept.refl _ _) hex)
          rcases hmm with ⟨h1, rfl⟩ | ⟨h1, rfl⟩
          · (unfold execOp; simp only [List.map_toArray, List.map_cons, List.map_nil, e28, re28]; (try simp [go_sem, e28, re28]); try omega)
          · (unfold execOp; simp only [List.map_toArray, List.map_cons, List.map_nil, e28, re28]; (try simp [go_sem, e28, re28]); try omega)
        · have f4 : f 4 = true := hall ⟨4, .data⟩ (by simp) rfl
          have e22 : a'.eval (.tmp 22) = .string (bs dl) := hI.eval (k := 4) (d := 22) (by decide) f4
          have f11 : f 11 = true := hall ⟨11, .data⟩ (by simp) rfl
          have e29 : a'.eval (.tmp 29) = .int .i64 (m : Int) := hI.eval (k := 11) (d := 29) (by decide) f11
          have re22 := e22
          simp only [Act.eval, Array.getD_eq_getD_getElem?] at re22
          have re29 := e29
          simp only [Act.eval, Array.getD_eq_getD_getElem?] at re29
          refine wp_value (w' := wz) ?_ (VS.step hI (d := 30) (by kernel_rfl) (by decide) rfl (hW.no (Kept.refl _ _)) (Kept.refl _ _) hex)
          (unfold execOp; simp only [List.map_toArray, List.map_cons, List.map_nil, e22, e29, re22, re29, hxt, hmle]; (try simp [go_sem, e22, e29, re22, re29, hxt, hmle]); try omega)
        · have f12 : f 12 = true := hall ⟨12, .data⟩ (by simp) rfl
          have e30 : a'.eval (.tmp 30) = .string (bs dt) := hI.eval (k := 12) (d := 30) (by decide) f12
          refine wp_value (w' := wz) ?_ (VS.step hI (d := 7) (by kernel_rfl) (by decide) rfl (hW.no (Kept.refl _ _)) (Kept.refl _ _) hex)
          (unfold execOp; simp only [List.map_toArray, List.map_cons, List.map_nil, e30]; (try simp [go_sem, e30]); try omega)
      · intro f a' wz hf hI
        have e7 : a'.tmps.getD 7 undef = .string (bs dt) := hI.slot (13, 7) (by decide) (hf 13 (by decide))
        have hkz := hI.world
        have ho := hI.out
        clear hI hf
        simp only [bo6D, List.foldl_cons, List.foldl_nil] at ho
        generalize a'.tmps.getD 18 undef = y18 at *
        generalize a'.tmps.getD 19 undef = y19 at *
        generalize a'.tmps.getD 20 undef = y20 at *
        generalize a'.tmps.getD 21 undef = y21 at *
        generalize a'.tmps.getD 22 undef = y22 at *
        generalize a'.tmps.getD 23 undef = y23 at *
        generalize a'.tmps.getD 24 undef = y24 at *
        generalize a'.tmps.getD 25 undef = y25 at *
        generalize a'.tmps.getD 26 undef = y26 at *
        generalize a'.tmps.getD 27 undef = y27 at *
        generalize a'.tmps.getD 28 undef = y28 at *
        generalize a'.tmps.getD 29 undef = y29 at *
        generalize a'.tmps.getD 30 undef = y30 at *
        rw [e7] at ho
        subst ho
        simp only [List.setIfInBounds_toArray, List.set_cons_zero, List.set_cons_succ]
        have o4 := own_same HO4.out (.of_kept hkz)
        have o5 := own_same HO5.out (.of_kept hkz)
        have kz := hk.no hkz
        have d0 := W0.out
        obtain ⟨i0, hi0, hz0, hz1, hz2⟩ := info_parts secInfo
        obtain ⟨j0, hj0, hy0, hy1, hy2⟩ := info_parts rsecInfo
        have HI := Lib.hid hi0
        have HZ0 := Lib.hid hz0
        have HZ1 := Lib.hid hz1
        have HZ2 := Lib.hid hz2
        have HJ := Lib.hid hj0
        have HY0 := Lib.hid hy0
        have HY1 := Lib.hid hy1
        have HY2 := Lib.hid hy2
        clear c0 c1 hxt hmle hmm HO4 HO5 hkz hi0 hz0 hz1 hz2 hj0 hy0 hy1 hy2 W0
        generalize hxs : secC (cutS (l.take k)) = xs at *
        have HXS := Lib.hid hxs
        clear hxs
        have HD0 := Lib.hid d0
        clear d0
        go_wp2_with fail
        have d0 := HD0.out
        refine wp_region_inv (by kernel_rfl) (by kernel_rfl) (Slots _ bo7D (boS (bo7V u4 u5 dt bb off l.length cap k a) w.heap.size k xs a (bs dt)) (boW w w.heap.size k xs u4 u5)) (Slots.start ⟨kz.drew, fun h => by simp at h, fun h => by simp at h, fun _ => own_same o4 (.of_kept (Kept.refl _ _).drew), fun _ => own_same o5 (.of_kept (Kept.refl _ _).drew)⟩) ?_ ?_
        · intro f a' wy hI i o ho hfi hall
          have hi : i < 22 := (Array.getElem?_eq_some_iff.1 ho).1
          have hW := hI.world
          have hba : w.heap.size ≤ wy.heap.size := hW.1.size
          rcases (by omega : i = 0 ∨ i = 1 ∨ i = 2 ∨ i = 3 ∨ i = 4 ∨ i = 5 ∨ i = 6 ∨ i = 7 ∨ i = 8 ∨ i = 9 ∨ i = 10 ∨ i = 11 ∨ i = 12 ∨ i = 13 ∨ i = 14 ∨ i = 15 ∨ i = 16 ∨ i = 17 ∨ i = 18 ∨ i = 19 ∨ i = 20 ∨ i = 21) with rfl | rfl | rfl | rfl | rfl | rfl | rfl | rfl | rfl | rfl | rfl | rfl | rfl | rfl | rfl | rfl | rfl | rfl | rfl | rfl | rfl | rfl
          all_goals
            simp only [List.getElem?_toArray, List.getElem?_cons_zero, List.getElem?_cons_succ, Option.some.injEq] at ho
            subst ho
          · have fx : f 20 = false := by cases hx : f 20 <;> first | rfl | exact absurd (hW.2.1 hx).1 (by rw [hfi]; exact Bool.false_ne_true)
            have e4 : a'.eval (.tmp 4) = u4 := (hI.fresh (k := 20) (d := 4) (by decide) fx).trans rfl
            refine wp_value (w' := wy) ?_ (BS.step hI (d := 31) (by kernel_rfl) (by decide) rfl (by decide) (by decide) (by decide) (by decide) (Kept.refl _ _))
            (unfold execOp; simp only [List.map_toArray, List.map_cons, List.map_nil, e4]; (try simp [go_sem, e4]); try omega)
          · have e0 : a'.eval (.tmp 0) = .slice (some ⟨bb, off, none⟩) l.length cap := hI.old (by decide)
            refine wp_value (w' := wy) ?_ (BS.step hI (d := 32) (by kernel_rfl) (by decide) rfl (by decide) (by decide) (by decide) (by decide) (Kept.refl _ _))
            (unfold execOp; simp only [List.map_toArray, List.map_cons, List.map_nil, e0]; (try simp [go_sem, e0]); try omega)
          · have e6 : a'.eval (.tmp 6) = .int .i64 (k : Int) := hI.old (by decide)
            refine wp_value (w' := wy) ?_ (BS.step hI (d := 33) (by kernel_rfl) (by decide) rfl (by decide) (by decide) (by decide) (by decide) (Kept.refl _ _))
            (unfold execOp; simp only [List.map_toArray, List.map_cons, List.map_nil, e6]; (try simp [go_sem, e6]); try omega)
          · have f1 : f 1 = true := hall ⟨1, .data⟩ (by simp) rfl
            have e32 : a'.eval (.tmp 32) = .slice (some ⟨bb, off, none⟩) l.length cap := hI.eval (k := 1) (d := 32) (by decide) f1
            have f2 : f 2 = true := hall ⟨2, .data⟩ (by simp) rfl
            have e33 : a'.eval (.tmp 33) = .int .i64 (k : Int) := hI.eval (k := 2) (d := 33) (by decide) f2
            refine wp_value (w' := wy) ?_ (BS.step hI (d := 34) (by kernel_rfl) (by decide) rfl (by decide) (by decide) (by decide) (by decide) (Kept.refl _ _))
            (unfold execOp; simp only [List.map_toArray, List.map_cons, List.map_nil, e32, e33, hkn1]; (try simp [go_sem, e32, e33, hkn1]); try omega)
          · have f3 : f 3 = true := hall ⟨3, .data⟩ (by simp) rfl
            have e34 : a'.eval (.tmp 34) = .pointer (some ⟨bb, off + k * 2, none⟩) := hI.eval (k := 3) (d := 34) (by decide) f3
            refine wp_value (w' := wy) ?_ (BS.step hI (d := 35) (by kernel_rfl) (by decide) rfl (by decide) (by decide) (by decide) (by decide) (Kept.refl _ _))
            (unfold execOp; simp only [List.map_toArray, List.map_cons, List.map_nil, e34]; (try simp [go_sem, e34]); try omega)
          · have f4 : f 4 = true := hall ⟨4, .data⟩ (by simp) rfl
            have e35 : a'.eval (.tmp 35) = .pointer (some ⟨bb, off + k * 2, none⟩) := hI.eval (k := 4) (d := 35) (by decide) f4
            refine wp_value (w' := wy) ?_ (BS.step hI (d := 36) (by kernel_rfl) (by decide) rfl (by decide) (by decide) (by decide) (by decide) (Kept.refl _ _))
            (unfold execOp; simp only [List.map_toArray, List.map_cons, List.map_nil, e35, hW.1.cell d0 (fun e => e)]; (try simp [go_sem, e35, hW.1.cell d0 (fun e => e)]); try omega)
          · have e7 : a'.eval (.tmp 7) = .string (bs dt) := hI.old (by decide)
            refine wp_value (w' := wy) ?_ (BS.step hI (d := 37) (by kernel_rfl) (by decide) rfl (by decide) (by decide) (by decide) (by decide) (Kept.refl _ _))
            (unfold execOp; simp only [List.map_toArray, List.map_cons, List.map_nil, e7]; (try simp [go_sem, e7]); try omega)
          · have f5 : f 5 = true := hall ⟨5, .data⟩ (by simp) rfl
            have e36 : a'.eval (.tmp 36) = .int .u8 (a : Int) := hI.eval (k := 5) (d := 36) (by decide) f5
            have f6 : f 6 = true := hall ⟨6, .data⟩ (by simp) rfl
            have e37 : a'.eval (.tmp 37) = .string (bs dt) := hI.eval (k := 6) (d := 37) (by decide) f6
            have re36 := e36
            simp only [Act.eval, Array.getD_eq_getD_getElem?] at re36
            have re37 := e37
            simp only [Act.eval, Array.getD_eq_getD_getElem?] at re37
            refine wp_value (w' := wy) ?_ (BS.step hI (d := 38) (by kernel_rfl) (by decide) rfl (by decide) (by decide) (by decide) (by decide) (Kept.refl _ _))
            (unfold execOp; simp only [List.map_toArray, List.map_cons, List.map_nil, e36, e37, re36, re37]; (try simp [go_sem, e36, e37, re36, re37]); try omega)
          · have f7 : f 7 = true := hall ⟨7, .data⟩ (by simp) rfl
            have e38 : a'.eval (.tmp 38) = .agg #[.int .u8 (a : Int), .string (bs dt)] := hI.eval (k := 7) (d := 38) (by decide) f7
            have r38 := e38
            simp only [Act.eval, Array.getD_eq_getD_getElem?] at r38
            refine wp_value (w' := wy.alloc (.cells #[.int .u8 (a : Int), .string (bs dt)] 107)) ?_ (BS.put hI (d := 39) (v := .slice (some ⟨wy.heap.size, 0, none⟩) 1 1) (by kernel_rfl) (by decide) (fun _ _ => ⟨_, rfl, Blk.new wy 107 [.int .u8 (a : Int), .string (bs dt)]⟩) (by decide) (by decide) (fun e => absurd e (by decide)) (fun e => absurd e (by decide)) ((Kept.refl _ _).alloc _))
            (unfold execOp; simp only [List.map_toArray, List.map_cons, List.map_nil, e38, r38]; (try simp [go_sem, e38, r38]); try omega)
          · have f0 : f 0 = true := hall ⟨0, .data⟩ (by simp) rfl
            have e31 : a'.eval (.tmp 31) = u4 := hI.eval (k := 0) (d := 31) (by decide) f0
            have f8 : f 8 = true := hall ⟨8, .data⟩ (by simp) rfl
            have e39 := hI.eval (k := 8) (d := 39) (by decide) f8
            obtain ⟨g8, e8x, hb8⟩ := e39 hfi
            refine wp_append_lies _ (.tmp 31) (.tmp 39) 64 rfl w.heap.size 107 i0 (.agg #[.int .u8 0, .string ByteArray.empty]) 2 24 Try.underlying64 HI.out HZ0.out HZ1.out HZ2.out rfl (by decide) u4 k xs e31 (hW.2.2.2.1 hfi) ⟨g8, 0, none⟩ 1 1 [.int .u8 (a : Int), .string (bs dt)] e8x rfl (World.news_of_block hb8) (one_sec _ _) (by decide) (by unfold maxLen; omega) (by omega) hba _ rfl ?_
            intro g9 cap9 w9 own9 grow9 hat9 hlt9
            refine hI.put (d := 40) (by kernel_rfl) (by decide) (boW_9 (Nat.le_refl _) hW hfi grow9) own9 (fun p hp hne hfp h => boS_keep (.inr ⟨rfl, fun e => absurd (hW.2.1 (by rw [← e]; exact hfp)).2 (by rw [hfi]; exact Bool.false_ne_true), hne⟩) (.inl (SameT.of_grown (by decide) (hW.2.2.2.1 hfi) grow9)) h)
          · have fx : f 21 = false := by cases hx : f 21 <;> first | rfl | exact absurd (hW.2.2.1 hx).1 (by rw [hfi]; exact Bool.false_ne_true)
            have e5 : a'.eval (.tmp 5) = u5 := (hI.fresh (k := 21) (d := 5) (by decide) fx).trans rfl
            refine wp_value (w' := wy) ?_ (BS.step hI (d := 41) (by kernel_rfl) (by decide) rfl (by decide) (by decide) (by decide) (by decide) (Kept.refl _ _))
            (unfold execOp; simp only [List.map_toArray, List.map_cons, List.map_nil, e5]; (try simp [go_sem, e5]); try omega)
          · have e0 : a'.eval (.tmp 0) = .slice (some ⟨bb, off, none⟩) l.length cap := hI.old (by decide)
            refine wp_value (w' := wy) ?_ (BS.step hI (d := 42) (by kernel_rfl) (by decide) rfl (by decide) (by decide) (by decide) (by decide) (Kept.refl _ _))
            (unfold execOp; simp only [List.map_toArray, List.map_cons, List.map_nil, e0]; (try simp [go_sem, e0]); try omega)
          · have e6 : a'.eval (.tmp 6) = .int .i64 (k : Int) := hI.old (by decide)
            refine wp_value (w' := wy) ?_ (BS.step hI (d := 43) (by kernel_rfl) (by decide) rfl (by decide) (by decide) (by decide) (by decide) (Kept.refl _ _))
            (unfold execOp; simp only [List.map_toArray, List.map_cons, List.map_nil, e6]; (try simp [go_sem, e6]); try omega)
          · have f11 : f 11 = true := hall ⟨11, .data⟩ (by simp) rfl
            have e42 : a'.eval (.tmp 42) = .slice (some ⟨bb, off, none⟩) l.length cap := hI.eval (k := 11) (d := 42) (by decide) f11
            have f12 : f 12 = true := hall ⟨12, .data⟩ (by simp) rfl
            have e43 : a'.eval (.tmp 43) = .int .i64 (k : Int) := hI.eval (k := 12) (d := 43) (by decide) f12
            refine wp_value (w' := wy) ?_ (BS.step hI (d := 44) (by kernel_rfl) (by decide) rfl (by decide) (by decide) (by decide) (by decide) (Kept.refl _ _))
            (unfold execOp; simp only [List.map_toArray, List.map_cons, List.map_nil, e42, e43, hkn1]; (try simp [go_sem, e42, e43, hkn1]); try omega)
          · have f13 : f 13 = true := hall ⟨13, .data⟩ (by simp) rfl
            have e44 : a'.eval (.tmp 44) = .pointer (some ⟨bb, off + k * 2, none⟩) := hI.eval (k := 13) (d := 44) (by decide) f13
            refine wp_value (w' := wy) ?_ (BS.step hI (d := 45) (by kernel_rfl) (by decide) rfl (by decide) (by decide) (by decide) (by decide) (Kept.refl _ _))
            (unfold execOp; simp only [List.map_toArray, List.map_cons, List.map_nil, e44]; (try simp [go_sem, e44]); try omega)
          · have f14 : f 14 = true := hall ⟨14, .data⟩ (by simp) rfl
            have e45 : a'.eval (.tmp 45) = .pointer (some ⟨bb, off + k * 2, none⟩) := hI.eval (k := 14) (d := 45) (by decide) f14
            refine wp_value (w' := wy) ?_ (BS.step hI (d := 46) (by kernel_rfl) (by decide) rfl (by decide) (by decide) (by decide) (by decide) (Kept.refl _ _))
            (unfold execOp; simp only [List.map_toArray, List.map_cons, List.map_nil, e45, hW.1.cell d0 (fun e => e)]; (try simp [go_sem, e45, hW.1.cell d0 (fun e => e)]); try omega)
          · have e7 : a'.eval (.tmp 7) = .string (bs dt) := hI.old (by decide)
            refine wp_value (w' := wy) ?_ (BS.step hI (d := 47) (by kernel_rfl) (by decide) rfl (by decide) (by decide) (by decide) (by decide) (Kept.refl _ _))
            (unfold execOp; simp only [List.map_toArray, List.map_cons, List.map_nil, e7]; (try simp [go_sem, e7]); try omega)
          · have f15 : f 15 = true := hall ⟨15, .data⟩ (by simp) rfl
            have e46 : a'.eval (.tmp 46) = .int .u8 (a : Int) := hI.eval (k := 15) (d := 46) (by decide) f15
            have f16 : f 16 = true := hall ⟨16, .data⟩ (by simp) rfl
            have e47 : a'.eval (.tmp 47) = .string (bs dt) := hI.eval (k := 16) (d := 47) (by decide) f16
            have re46 := e46
            simp only [Act.eval, Array.getD_eq_getD_getElem?] at re46
            have re47 := e47
            simp only [Act.eval, Array.getD_eq_getD_getElem?] at re47
            refine wp_value (w' := wy) ?_ (BS.step hI (d := 48) (by kernel_rfl) (by decide) rfl (by decide) (by decide) (by decide) (by decide) (Kept.refl _ _))
            (unfold execOp; simp only [List.map_toArray, List.map_cons, List.map_nil, e46, e47, re46, re47]; (try simp [go_sem, e46, e47, re46, re47]); try omega)
          · have f17 : f 17 = true := hall ⟨17, .data⟩ (by simp) rfl
            have e48 : a'.eval (.tmp 48) = .agg #[.int .u8 (a : Int), .string (bs dt)] := hI.eval (k := 17) (d := 48) (by decide) f17
            have r48 := e48
            simp only [Act.eval, Array.getD_eq_getD_getElem?] at r48
            refine wp_value (w' := wy.alloc (.cells #[.int .u8 (a : Int), .string (bs dt)] 108)) ?_ (BS.put hI (d := 49) (v := .slice (some ⟨wy.heap.size, 0, none⟩) 1 1) (by kernel_rfl) (by decide) (fun _ _ => ⟨_, rfl, Blk.new wy 108 [.int .u8 (a : Int), .string (bs dt)]⟩) (by decide) (by decide) (fun e => absurd e (by decide)) (fun e => absurd e (by decide)) ((Kept.refl _ _).alloc _))
            (unfold execOp; simp only [List.map_toArray, List.map_cons, List.map_nil, e48, r48]; (try simp [go_sem, e48, r48]); try omega)
          · have f10 : f 10 = true := hall ⟨10, .data⟩ (by simp) rfl
            have e41 : a'.eval (.tmp 41) = u5 := hI.eval (k := 10) (d := 41) (by decide) f10
            have f18 : f 18 = true := hall ⟨18, .data⟩ (by simp) rfl
            have e49 := hI.eval (k := 18) (d := 49) (by decide) f18
            obtain ⟨g8, e8x, hb8⟩ := e49 hfi
            refine wp_append_lies _ (.tmp 41) (.tmp 49) 65 rfl w.heap.size 108 j0 (.agg #[.int .u8 0, .string ByteArray.empty]) 2 24 Try.underlying65 HJ.out HY0.out HY1.out HY2.out rfl (by decide) u5 k xs e41 (hW.2.2.2.2 hfi) ⟨g8, 0, none⟩ 1 1 [.int .u8 (a : Int), .string (bs dt)] e8x rfl (World.news_of_block hb8) (one_sec _ _) (by decide) (by unfold maxLen; omega) (by omega) hba _ rfl ?_
            intro g9 cap9 w9 own9 grow9 hat9 hlt9
            refine hI.put (d := 50) (by kernel_rfl) (by decide) (boW_19 (Nat.le_refl _) hW hfi grow9) own9 (fun p hp hne hfp h => boS_keep (.inl (SameT.of_grown (by decide) (hW.2.2.2.2 hfi) grow9)) (.inr ⟨rfl, fun e => absurd (hW.2.2.1 (by rw [← e]; exact hfp)).2 (by rw [hfi]; exact Bool.false_ne_true), hne⟩) h)
          · have f9 : f 9 = true := hall ⟨9, .data⟩ (by simp) rfl
            have e40 := hI.eval (k := 9) (d := 40) (by decide) f9
            have fz : f 0 = true := hall ⟨0, .phase⟩ (by simp) rfl
            exact wp_value rfl (BS.put hI (d := 4) (by kernel_rfl) (by decide) (fun _ => e40) (by decide) (by decide) (fun _ => ⟨fz, f9⟩) (fun e => absurd e (by decide)) (Kept.refl _ _))
          · have f19 : f 19 = true := hall ⟨19, .data⟩ (by simp) rfl
            have e50 := hI.eval (k := 19) (d := 50) (by decide) f19
            have fz : f 10 = true := hall ⟨10, .phase⟩ (by simp) rfl
            exact wp_value rfl (BS.put hI (d := 5) (by kernel_rfl) (by decide) (fun _ => e50) (by decide) (by decide) (fun e => absurd e (by decide)) (fun _ => ⟨fz, f19⟩) (Kept.refl _ _))
        · intro f a' wy hf hI
          have o4' : wy.ownsRow w.heap.size 107 2 (a'.tmps.getD 4 undef) (k + 1) (xs ++ [.int .u8 (a : Int), .string (bs dt)]) := hI.slot (20, 4) (by decide) (hf 20 (by decide))
          have o5' : wy.ownsRow w.heap.size 108 2 (a'.tmps.getD 5 undef) (k + 1) (xs ++ [.int .u8 (a : Int), .string (bs dt)]) := hI.slot (21, 5) (by decide) (hf 21 (by decide))
          have ky := hI.world.1
          have ho := hI.out
          clear hI hf o4 o5
          simp only [bo7D, List.foldl_cons, List.foldl_nil] at ho
          generalize a'.tmps.getD 31 undef = y31 at *
          generalize a'.tmps.getD 32 undef = y32 at *
          generalize a'.tmps.getD 33 undef = y33 at *
          generalize a'.tmps.getD 34 undef = y34 at *
          generalize a'.tmps.getD 35 undef = y35 at *
          generalize a'.tmps.getD 36 undef = y36 at *
          generalize a'.tmps.getD 37 undef = y37 at *
          generalize a'.tmps.getD 38 undef = y38 at *
          generalize a'.tmps.getD 39 undef = y39 at *
          generalize a'.tmps.getD 40 undef = y40 at *
          generalize a'.tmps.getD 41 undef = y41 at *
          generalize a'.tmps.getD 42 undef = y42 at *
          generalize a'.tmps.getD 43 undef = y43 at *
          generalize a'.tmps.getD 44 undef = y44 at *
          generalize a'.tmps.getD 45 undef = y45 at *
          generalize a'.tmps.getD 46 undef = y46 at *
          generalize a'.tmps.getD 47 undef = y47 at *
          generalize a'.tmps.getD 48 undef = y48 at *
          generalize a'.tmps.getD 49 undef = y49 at *
          generalize a'.tmps.getD 50 undef = y50 at *
          generalize a'.tmps.getD 4 undef = y4 at *
          generalize a'.tmps.getD 5 undef = y5 at *
          subst ho
          simp only [List.setIfInBounds_toArray, List.set_cons_zero, List.set_cons_succ]
          have hnew : xs ++ [.int .u8 (a : Int), .string (bs dt)] = secC (cutS (l.take (k + 1))) := by rw [HCT.out, secC_snoc, HXS.out, HX1.out]
          rw [hnew] at o4' o5'
          have HO4 := Lib.hid o4'
          have HO5 := Lib.hid o5'
          clear d0 hnew o4' o5'
          go_wp2_with fail
          exact ⟨⟨k + 1, by omega, by omega, by go_num, HO4.out, HO5.out, ky⟩, by simp [intOf]; omega⟩
    · have ht : cutS (l.take k) = cutS (l.take 8) := by
        rcases (show k = 8 ∨ l.length = k by omega) with rfl | h
        · rfl
        · rw [List.take_of_length_le (by omega), List.take_of_length_le (by omega)]
      have hcl := cutS_len l k hkl
      rw [ht] at o4 o5 hcl
      rw [← hcl] at o4 o5
      obtain ⟨A1, c1, rfl, s1⟩ := own_at o4
      obtain ⟨A2, c2, rfl, s2⟩ := own_at o5
      clear o4 o5 ht
      rcases (show (l.length : Int) ≤ (k : Int) ∨ ((k : Int) < (l.length : Int) ∧ (8 : Int) ≤ (k : Int)) by omega) with hex | ⟨hex, hex2⟩
      · clear hlt hcl
        go_wp2_with fail
        go_ret2
        exact ⟨A1, c1, A2, c2, rfl, s1, s2, hk⟩
      · clear hlt hcl
        go_wp2_with fail
        go_ret2
        exact ⟨A1, c1, A2, c2, rfl, s1, s2, hk⟩
end Go.Proofs.Ytclnginkplhlhaa

