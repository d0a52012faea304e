/- A drawn region 'p, q := x, y' where p and q lie in blocks of their own: the laws of its steps. No condition. -/
import Derived.Test.YtngpfjmifaecjaaRowsS
import Derived.Test.YtngpfjmifaecjaaAppReg
import Derived.Test.YtngpfjmifaecjaaRegInvG
namespace Go.Proofs.Ytngpfjmifaecjaa
open Go.RowKit
/-- what a stored row is; it stays so where a block of the type T is turned -/
structure Stays (T : TypeId) (G : World → List Value → Prop) : Prop where
  kept : ∀ w w' cs, Kept noB w w' → G w cs → G w' cs
  far : ∀ w w' g cs cs', Blk w g T cs' → Kept (oneB g) w w' → G w cs → G w' cs
theorem Stays.eq (T : TypeId) (r : List Value) : Stays T (fun _ cs => cs = r) := ⟨fun _ _ _ _ h => h, fun _ _ _ _ _ _ _ h => h⟩
def twE (H : Nat) (T : TypeId) (z : List Value) (G1 G2 : World → List Value → Prop) (ia ib is1 is2 : Nat) (ex : Nat → World → Value → Prop) (i : Nat) (f : Nat → Bool) (w : World) (v : Value) : Prop :=
  if i = ia then ∃ g, v = .pointer (some ⟨g, 0, none⟩) ∧ H ≤ g ∧ g < w.heap.size ∧ ∃ cs, Blk w g T cs ∧ (f is1 = false → cs = z) ∧ (f is1 = true → G1 w cs)
  else if i = ib then ∃ g, v = .pointer (some ⟨g, 0, none⟩) ∧ H ≤ g ∧ g < w.heap.size ∧ ∃ cs, Blk w g T cs ∧ (f is2 = false → cs = z) ∧ (f is2 = true → G2 w cs)
  else ex i w v
section
variable {w0 w w' : World} {T : TypeId} {z : List Value} {G1 G2 : World → List Value → Prop} {ia ib is1 is2 : Nat} {ex : Nat → World → Value → Prop} {f : Nat → Bool} {val : Nat → Option Value} {a0 a : Act} {sl : List (Nat × Nat)} {da db : Nat}
structure TW (a0 : Act) (sl : List (Nat × Nat)) (val : Nat → Option Value) (w0 : World) (T : TypeId) (z : List Value) (G1 G2 : World → List Value → Prop) (ia ib is1 is2 da db : Nat) (ex : Nat → World → Value → Prop) (f : Nat → Bool) (a : Act) (w : World) : Prop where
  slots : Slots a0 sl (apS val (twE w0.heap.size T z G1 G2 ia ib is1 is2 ex)) (fun _ w => Kept noB w0 w) f a w
  ne : f ia = true → f ib = true → a.eval (.tmp da) ≠ a.eval (.tmp db)
structure TWok (val : Nat → Option Value) (T : TypeId) (G1 G2 : World → List Value → Prop) (ia ib is1 is2 da db : Nat) (ex : Nat → World → Value → Prop) (sl : List (Nat × Nat)) : Prop where
  g1 : Stays T G1
  g2 : Stays T G2
  e1 : ∀ i w w' v, Kept noB w w' → ex i w v → ex i w' v
  e2 : ∀ i w w' g cs v, Blk w g T cs → Kept (oneB g) w w' → ex i w v → ex i w' v
  va : val ia = none
  vb : val ib = none
  ab : ia ≠ ib
  s1 : is1 ≠ is2
  dd : da ≠ db
  ma : (ia, da) ∈ sl
  mb : (ib, db) ∈ sl
  n1 : ∀ p ∈ sl, p.1 ≠ is1
  n2 : ∀ p ∈ sl, p.1 ≠ is2
theorem TW.start : TW a0 sl val w0 T z G1 G2 ia ib is1 is2 da db ex (fun _ => false) a0 w0.drew :=
  ⟨Slots.start (Kept.refl _ _).drew, (fun e => by cases e)⟩
theorem eval_put {a : Act} {d j : Nat} {v : Value} (h : d ≠ j) : (a.put (some d) v).eval (.tmp j) = a.eval (.tmp j) := by
  simp [Act.put, Act.eval, Array.getElem?_setIfInBounds_ne h]
theorem eval_put_none {a : Act} {j : Nat} {v : Value} : (a.put none v).eval (.tmp j) = a.eval (.tmp j) := rfl
theorem apS_none {E : Nat → (Nat → Bool) → World → Value → Prop} {j : Nat} {u : Value} (hv : val j = none) : apS val E j f w u = E j f w u := by
  unfold apS
  rw [hv]
theorem apS_some {E : Nat → (Nat → Bool) → World → Value → Prop} {j : Nat} {u x : Value} (hv : val j = some x) : apS val E j f w u = (u = x) := by
  unfold apS
  rw [hv]
theorem slot_same {n : Nat} (hok : slotsOk n sl = true) {p q : Nat × Nat} (hp : p ∈ sl) (hq : q ∈ sl) (h : p.1 = q.1) : p.2 = q.2 := by
  have h1 := List.all_eq_true.1 hok _ hp
  simp only [Bool.and_eq_true] at h1
  have h2 := List.all_eq_true.1 h1.2 _ hq
  simpa [h] using h2
theorem twE_kept (ok : TWok val T G1 G2 ia ib is1 is2 da db ex sl) {H : Nat} (hk : Kept noB w w') {i j : Nat} {u : Value} (h1 : i ≠ is1) (h2 : i ≠ is2) (h : apS val (twE H T z G1 G2 ia ib is1 is2 ex) j f w u) : apS val (twE H T z G1 G2 ia ib is1 is2 ex) j (fun x => decide (x = i) || f x) w' u := by
  cases hv : val j with
  | some x =>
    rw [apS_some hv] at h ⊢
    exact h
  | none =>
    rw [apS_none hv] at h ⊢
    unfold twE at h ⊢
    split
    · rename_i e
      rw [if_pos e] at h
      obtain ⟨g, q1, q2, q3, cs, q4, q5, q6⟩ := h
      refine ⟨g, q1, q2, Nat.lt_of_lt_of_le q3 hk.size, cs, q4.kept hk (fun e => e), ?_, ?_⟩
      · simp only [upd_ne' h1]; exact q5
      · simp only [upd_ne' h1]; exact fun e => ok.g1.kept _ _ _ hk (q6 e)
    · rename_i e
      rw [if_neg e] at h
      split
      · rename_i e
        rw [if_pos e] at h
        obtain ⟨g, q1, q2, q3, cs, q4, q5, q6⟩ := h
        refine ⟨g, q1, q2, Nat.lt_of_lt_of_le q3 hk.size, cs, q4.kept hk (fun e => e), ?_, ?_⟩
        · simp only [upd_ne' h2]; exact q5
        · simp only [upd_ne' h2]; exact fun e => ok.g2.kept _ _ _ hk (q6 e)
      · rename_i e
        rw [if_neg e] at h
        exact ok.e1 _ _ _ _ hk h
/-- an operation whose value is known -/
theorem TW.one (ok : TWok val T G1 G2 ia ib is1 is2 da db ex sl) (hI : TW a0 sl val w0 T z G1 G2 ia ib is1 is2 da db ex f a w) {i d : Nat} {u : Value} (hok : slotsOk a0.tmps.size sl = true) (hd : (i, d) ∈ sl) (hv : ∀ f, apS val (twE w0.heap.size T z G1 G2 ia ib is1 is2 ex) i f w' u) (hi : i ≠ ia) (hj : i ≠ ib) (h3 : d ≠ da) (h4 : d ≠ db) (hk : Kept noB w w') :
    TW a0 sl val w0 T z G1 G2 ia ib is1 is2 da db ex (fun j => decide (j = i) || f j) (a.put (some d) u) w' := by
  have hs := hI.slots
  refine ⟨hs.put hok hd (hs.world.no hk) (hv _) (fun p hp _ _ h => twE_kept ok hk (fun e => ok.n1 _ hd e) (fun e => ok.n2 _ hd e) h), ?_⟩
  simp only [upd_ne' hi, upd_ne' hj, eval_put h3, eval_put h4]
  exact hI.ne
theorem TW.valu (ok : TWok val T G1 G2 ia ib is1 is2 da db ex sl) (hI : TW a0 sl val w0 T z G1 G2 ia ib is1 is2 da db ex f a w) {i d : Nat} {u : Value} (hok : slotsOk a0.tmps.size sl = true) (hd : (i, d) ∈ sl) (hv : val i = some u) (hi : i ≠ ia) (hj : i ≠ ib) (h3 : d ≠ da) (h4 : d ≠ db) (hk : Kept noB w w') :
    TW a0 sl val w0 T z G1 G2 ia ib is1 is2 da db ex (fun j => decide (j = i) || f j) (a.put (some d) u) w' :=
  TW.one ok hI hok hd (fun _ => by rw [apS_some hv]) hi hj h3 h4 hk
theorem TW.exv (ok : TWok val T G1 G2 ia ib is1 is2 da db ex sl) (hI : TW a0 sl val w0 T z G1 G2 ia ib is1 is2 da db ex f a w) {i d : Nat} {u : Value} (hok : slotsOk a0.tmps.size sl = true) (hd : (i, d) ∈ sl) (hv : val i = none) (h : ex i w' u) (hi : i ≠ ia) (hj : i ≠ ib) (h3 : d ≠ da) (h4 : d ≠ db) (hk : Kept noB w w') :
    TW a0 sl val w0 T z G1 G2 ia ib is1 is2 da db ex (fun j => decide (j = i) || f j) (a.put (some d) u) w' :=
  TW.one ok hI hok hd (fun _ => by rw [apS_none hv]; unfold twE; rw [if_neg hi, if_neg hj]; exact h) hi hj h3 h4 hk
theorem TW.get (hI : TW a0 sl val w0 T z G1 G2 ia ib is1 is2 da db ex f a w) {i d : Nat} {u : Value} (hd : (i, d) ∈ sl) (hv : val i = some u) (hf : f i = true) : a.eval (.tmp d) = u := by
  have := hI.slots.eval hd hf
  unfold apS at this
  rwa [hv] at this
theorem TW.exs (hI : TW a0 sl val w0 T z G1 G2 ia ib is1 is2 da db ex f a w) {i d : Nat} (hd : (i, d) ∈ sl) (hv : val i = none) (hi : i ≠ ia) (hj : i ≠ ib) (hf : f i = true) : ex i w (a.eval (.tmp d)) := by
  have := hI.slots.eval hd hf
  unfold apS at this
  rw [hv] at this
  unfold twE at this
  rwa [if_neg hi, if_neg hj] at this
theorem TW.old (hI : TW a0 sl val w0 T z G1 G2 ia ib is1 is2 da db ex f a w) {j : Nat} (hj : j ∉ sl.map (·.2)) : a.eval (.tmp j) = a0.tmps.getD j undef := hI.slots.old hj
theorem TW.kept (hI : TW a0 sl val w0 T z G1 G2 ia ib is1 is2 da db ex f a w) : Kept noB w0 w := hI.slots.world
theorem TW.blkA (hI : TW a0 sl val w0 T z G1 G2 ia ib is1 is2 da db ex f a w) (ok : TWok val T G1 G2 ia ib is1 is2 da db ex sl) (hf : f ia = true) : ∃ g, a.eval (.tmp da) = .pointer (some ⟨g, 0, none⟩) ∧ w0.heap.size ≤ g ∧ g < w.heap.size ∧ ∃ cs, Blk w g T cs ∧ (f is1 = false → cs = z) ∧ (f is1 = true → G1 w cs) := by
  have := hI.slots.eval ok.ma hf
  unfold apS at this
  rw [ok.va] at this
  unfold twE at this
  rwa [if_pos rfl] at this
theorem TW.blkB (hI : TW a0 sl val w0 T z G1 G2 ia ib is1 is2 da db ex f a w) (ok : TWok val T G1 G2 ia ib is1 is2 da db ex sl) (hf : f ib = true) : ∃ g, a.eval (.tmp db) = .pointer (some ⟨g, 0, none⟩) ∧ w0.heap.size ≤ g ∧ g < w.heap.size ∧ ∃ cs, Blk w g T cs ∧ (f is2 = false → cs = z) ∧ (f is2 = true → G2 w cs) := by
  have := hI.slots.eval ok.mb hf
  unfold apS at this
  rw [ok.vb] at this
  unfold twE at this
  rwa [if_neg (fun e => ok.ab e.symm), if_pos rfl] at this
theorem eval_put_same {a : Act} {d : Nat} {v : Value} (h : d < a.tmps.size) : (a.put (some d) v).eval (.tmp d) = v := by
  simp [Act.put, Act.eval, h]
theorem TW.lt (hI : TW a0 sl val w0 T z G1 G2 ia ib is1 is2 da db ex f a w) (hok : slotsOk a0.tmps.size sl = true) {i d : Nat} (hd : (i, d) ∈ sl) : d < a.tmps.size := by
  rw [hI.slots.size]
  have := List.all_eq_true.1 hok _ hd
  simp only [Bool.and_eq_true, decide_eq_true_eq] at this
  exact this.1
/-- the first block -/
theorem TW.allocA (ok : TWok val T G1 G2 ia ib is1 is2 da db ex sl) (hI : TW a0 sl val w0 T z G1 G2 ia ib is1 is2 da db ex f a w) (hok : slotsOk a0.tmps.size sl = true) (hf1 : f is1 = false) :
    TW a0 sl val w0 T z G1 G2 ia ib is1 is2 da db ex (fun j => decide (j = ia) || f j) (a.put (some da) (.pointer (some ⟨w.heap.size, 0, none⟩))) (w.alloc (.cells z.toArray T)) := by
  have hs := hI.slots
  have hk : Kept noB w (w.alloc (.cells z.toArray T)) := (Kept.refl _ _).alloc _
  have n1 := ok.n1 _ ok.ma
  have n2 := ok.n2 _ ok.ma
  refine ⟨hs.put hok ok.ma (hs.world.no hk) ?_ (fun p hp _ _ h => twE_kept ok hk n1 n2 h), ?_⟩
  · unfold apS
    rw [ok.va]
    unfold twE
    rw [if_pos rfl]
    refine ⟨w.heap.size, rfl, hs.world.size, by simp, z, Blk.new w T z, fun _ => rfl, fun e => ?_⟩
    simp only [upd_ne' n1] at e
    rw [hf1] at e
    cases e
  · intro _ hb
    have hb' : f ib = true := by simpa [upd_ne' ok.ab] using hb
    obtain ⟨g, e, _, hlt, _⟩ := hI.blkB ok hb'
    rw [eval_put_same (hI.lt hok ok.ma), eval_put ok.dd, e]
    intro e
    injection e with e
    injection e with e
    injection e with e
    omega
theorem TW.allocB (ok : TWok val T G1 G2 ia ib is1 is2 da db ex sl) (hI : TW a0 sl val w0 T z G1 G2 ia ib is1 is2 da db ex f a w) (hok : slotsOk a0.tmps.size sl = true) (hf2 : f is2 = false) :
    TW a0 sl val w0 T z G1 G2 ia ib is1 is2 da db ex (fun j => decide (j = ib) || f j) (a.put (some db) (.pointer (some ⟨w.heap.size, 0, none⟩))) (w.alloc (.cells z.toArray T)) := by
  have hs := hI.slots
  have hk : Kept noB w (w.alloc (.cells z.toArray T)) := (Kept.refl _ _).alloc _
  have n1 := ok.n1 _ ok.mb
  have n2 := ok.n2 _ ok.mb
  refine ⟨hs.put hok ok.mb (hs.world.no hk) ?_ (fun p hp _ _ h => twE_kept ok hk n1 n2 h), ?_⟩
  · unfold apS
    rw [ok.vb]
    unfold twE
    rw [if_neg (fun e => ok.ab e.symm), if_pos rfl]
    refine ⟨w.heap.size, rfl, hs.world.size, by simp, z, Blk.new w T z, fun _ => rfl, fun e => ?_⟩
    simp only [upd_ne' n2] at e
    rw [hf2] at e
    cases e
  · intro ha _
    have ha' : f ia = true := by simpa [upd_ne' (fun e => ok.ab e.symm : ib ≠ ia)] using ha
    obtain ⟨g, e, _, hlt, _⟩ := hI.blkA ok ha'
    rw [eval_put_same (hI.lt hok ok.mb), eval_put (fun e => ok.dd e.symm), e]
    intro e
    injection e with e
    injection e with e
    injection e with e
    omega
/-- the first store -/
theorem TW.storeA (ok : TWok val T G1 G2 ia ib is1 is2 da db ex sl) (hI : TW a0 sl val w0 T z G1 G2 ia ib is1 is2 da db ex f a w) (hok : slotsOk a0.tmps.size sl = true) (hfa : f ia = true) (hf1 : f is1 = false) {cs : List Value} (hG : G1 w cs) :
    ∃ g, a.eval (.tmp da) = .pointer (some ⟨g, 0, none⟩) ∧ Blk w g T z ∧ ∀ u, TW a0 sl val w0 T z G1 G2 ia ib is1 is2 da db ex (fun j => decide (j = is1) || f j) (a.put none u) (w.setRow g cs.toArray) := by
  obtain ⟨g, e, hg, hlt, cs0, hb, h0, _⟩ := hI.blkA ok hfa
  have e0 := h0 hf1
  subst e0
  have hs := hI.slots
  have hk : Kept (oneB g) w (w.setRow g cs.toArray) := Kept.setRow (S := oneB g) (Kept.refl _ _) (g := g) (fun _ => (rfl : g = g)) _
  have nm : is1 ≠ ia := fun e => ok.n1 _ ok.ma e.symm
  have nm' : is1 ≠ ib := fun e => ok.n1 _ ok.mb e.symm
  refine ⟨g, e, hb, fun u => ⟨hs.pass ok.n1 (hs.world.setRow (fun h => by omega) _) (fun p hp hne hfp h => ?_), ?_⟩⟩
  · cases hv : val p.1 with
    | some x =>
      rw [apS_some hv] at h ⊢
      exact h
    | none =>
      rw [apS_none hv] at h ⊢
      unfold twE at h ⊢
      split
      · rename_i ei
        rw [if_pos ei] at h
        obtain ⟨g', q1, q2, q3, cs', q4, q5, q6⟩ := h
        have hd : p.2 = da := slot_same hok hp ok.ma ei
        have q1' : a.eval (.tmp da) = .pointer (some ⟨g', 0, none⟩) := by rw [← hd]; exact q1
        rw [e] at q1'
        injection q1' with q1'
        injection q1' with q1'
        injection q1' with q1'
        subst q1'
        exact ⟨g, q1, q2, by simpa using q3, cs, q4.row cs, (fun e => by simp at e), fun _ => ok.g1.far _ _ _ _ _ hb hk hG⟩
      · rename_i en
        rw [if_neg en] at h
        split
        · rename_i ei
          rw [if_pos ei] at h
          obtain ⟨g', q1, q2, q3, cs', q4, q5, q6⟩ := h
          have hd : p.2 = db := slot_same hok hp ok.mb ei
          have q1' : a.eval (.tmp db) = .pointer (some ⟨g', 0, none⟩) := by rw [← hd]; exact q1
          have hgg : g' ≠ g := fun eg => by
            subst eg
            exact hI.ne hfa (by rw [← ei]; exact hfp) (e.trans q1'.symm)
          refine ⟨g', q1, q2, by simpa using q3, cs', q4.rowFar hgg _, ?_, ?_⟩
          · simp only [upd_ne' ok.s1]; exact q5
          · simp only [upd_ne' ok.s1]; exact fun e => ok.g2.far _ _ _ _ _ hb hk (q6 e)
        · rename_i em
          rw [if_neg em] at h
          exact ok.e2 _ _ _ _ _ _ hb hk h
  · simp only [upd_ne' nm, upd_ne' nm', eval_put_none]
    exact hI.ne
theorem TW.storeB (ok : TWok val T G1 G2 ia ib is1 is2 da db ex sl) (hI : TW a0 sl val w0 T z G1 G2 ia ib is1 is2 da db ex f a w) (hok : slotsOk a0.tmps.size sl = true) (hfa : f ib = true) (hf1 : f is2 = false) {cs : List Value} (hG : G2 w cs) :
    ∃ g, a.eval (.tmp db) = .pointer (some ⟨g, 0, none⟩) ∧ Blk w g T z ∧ ∀ u, TW a0 sl val w0 T z G1 G2 ia ib is1 is2 da db ex (fun j => decide (j = is2) || f j) (a.put none u) (w.setRow g cs.toArray) := by
  obtain ⟨g, e, hg, hlt, cs0, hb, h0, _⟩ := hI.blkB ok hfa
  have e0 := h0 hf1
  subst e0
  have hs := hI.slots
  have hk : Kept (oneB g) w (w.setRow g cs.toArray) := Kept.setRow (S := oneB g) (Kept.refl _ _) (g := g) (fun _ => (rfl : g = g)) _
  have nm : is2 ≠ ia := fun e => ok.n2 _ ok.ma e.symm
  have nm' : is2 ≠ ib := fun e => ok.n2 _ ok.mb e.symm
  refine ⟨g, e, hb, fun u => ⟨hs.pass ok.n2 (hs.world.setRow (fun h => by omega) _) (fun p hp hne hfp h => ?_), ?_⟩⟩
  · cases hv : val p.1 with
    | some x =>
      rw [apS_some hv] at h ⊢
      exact h
    | none =>
      rw [apS_none hv] at h ⊢
      unfold twE at h ⊢
      split
      · rename_i ei
        rw [if_pos ei] at h
        obtain ⟨g', q1, q2, q3, cs', q4, q5, q6⟩ := h
        have hd : p.2 = da := slot_same hok hp ok.ma ei
        have q1' : a.eval (.tmp da) = .pointer (some ⟨g', 0, none⟩) := by rw [← hd]; exact q1
        have hgg : g' ≠ g := fun eg => by
          subst eg
          exact hI.ne (by rw [← ei]; exact hfp) hfa (q1'.trans e.symm)
        refine ⟨g', q1, q2, by simpa using q3, cs', q4.rowFar hgg _, ?_, ?_⟩
        · simp only [upd_ne' (fun e => ok.s1 e.symm)]; exact q5
        · simp only [upd_ne' (fun e => ok.s1 e.symm)]; exact fun e => ok.g1.far _ _ _ _ _ hb hk (q6 e)
      · rename_i en
        rw [if_neg en] at h
        split
        · rename_i ei
          rw [if_pos ei] at h
          obtain ⟨g', q1, q2, q3, cs', q4, q5, q6⟩ := h
          have hd : p.2 = db := slot_same hok hp ok.mb ei
          have q1' : a.eval (.tmp db) = .pointer (some ⟨g', 0, none⟩) := by rw [← hd]; exact q1
          rw [e] at q1'
          injection q1' with q1'
          injection q1' with q1'
          injection q1' with q1'
          subst q1'
          exact ⟨g, q1, q2, by simpa using q3, cs, q4.row cs, (fun e => by simp at e), fun _ => ok.g2.far _ _ _ _ _ hb hk hG⟩
        · rename_i em
          rw [if_neg em] at h
          exact ok.e2 _ _ _ _ _ _ hb hk h
  · simp only [upd_ne' nm, upd_ne' nm', eval_put_none]
    exact hI.ne
theorem TW.finish (hI : TW a0 sl val w0 T z G1 G2 ia ib is1 is2 da db ex f a w) (ok : TWok val T G1 G2 ia ib is1 is2 da db ex sl) (h1 : f ia = true) (h2 : f ib = true) (h3 : f is1 = true) (h4 : f is2 = true) :
    ∃ g1 g2 cs1 cs2, a.tmps.getD da undef = .pointer (some ⟨g1, 0, none⟩) ∧ a.tmps.getD db undef = .pointer (some ⟨g2, 0, none⟩) ∧ g1 ≠ g2 ∧ w0.heap.size ≤ g1 ∧ w0.heap.size ≤ g2 ∧ Blk w g1 T cs1 ∧ Blk w g2 T cs2 ∧ G1 w cs1 ∧ G2 w cs2 ∧ Kept noB w0 w := by
  obtain ⟨g1, e1, p1, _, c1, b1, _, q1⟩ := hI.blkA ok h1
  obtain ⟨g2, e2, p2, _, c2, b2, _, q2⟩ := hI.blkB ok h2
  refine ⟨g1, g2, c1, c2, e1, e2, fun e => ?_, p1, p2, b1, b2, q1 h3, q2 h4, hI.kept⟩
  subst e
  exact hI.ne h1 h2 (e1.trans e2.symm)
end
end Go.Proofs.Ytngpfjmifaecjaa
