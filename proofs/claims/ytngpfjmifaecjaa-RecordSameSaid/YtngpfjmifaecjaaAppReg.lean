/- A drawn region 's.f = append(s.f, x)', s a struct of the call's own: the laws of its steps. No condition. -/
import Derived.Test.YtngpfjmifaecjaaRowsS
import Derived.Test.YtngpfjmifaecjaaRegInv
namespace Go.Proofs.Ytngpfjmifaecjaa
open Go.RowKit
/-- what of the world is turned: the struct's block, the row -/
def apK (X : Nat) (v : Value) : Nat → Prop := fun j => j = X ∨ v.ownBlock = some j
structure AW (w0 : World) (X off : Nat) (T : TypeId) (ds : List Value) (b : Nat) (E : TypeId) (k : Nat) (v : Value) (n : Nat) (xs row : List Value) (il ia ist : Nat) (f : Nat → Bool) (w : World) : Prop where
  kept : Kept (apK X v) w0 w
  o1 : f ist = true → f ia = true
  o2 : f ia = true → f il = true
  old : f ia = false → w.ownsRow b E k v n xs
  blk : ∃ u, Blk w X T (ds.set off u) ∧ (f ist = false → u = v) ∧ (f ist = true → w.ownsRow b E k u (n + 1) (xs ++ row) ∧ (u.ownBlock = v.ownBlock ∨ ∀ g, u.ownBlock = some g → w0.heap.size ≤ g))
def apE (H b : Nat) (E : TypeId) (k : Nat) (v : Value) (n : Nat) (xs row : List Value) (ib ia : Nat) (i : Nat) (f : Nat → Bool) (w : World) (u : Value) : Prop :=
  (i = ib → f ia = false → ∃ g, H ≤ g ∧ u = .slice (some ⟨g, 0, none⟩) 1 1 ∧ Blk w g E row) ∧
  (i = ia → w.ownsRow b E k u (n + 1) (xs ++ row) ∧ (u.ownBlock = v.ownBlock ∨ ∀ g, u.ownBlock = some g → H ≤ g))
def apS (val : Nat → Option Value) (ex : Nat → (Nat → Bool) → World → Value → Prop) (i : Nat) (f : Nat → Bool) (w : World) (u : Value) : Prop := match val i with | some x => u = x | none => ex i f w u
theorem upd_ne' {f : Nat → Bool} {i j : Nat} (h : i ≠ j) : (decide (j = i) || f j) = f j := by
  have : decide (j = i) = false := by simp; exact fun e => h e.symm
  rw [this, Bool.false_or]
theorem upd_le' {f : Nat → Bool} {i j : Nat} (h : f j = true) : (decide (j = i) || f j) = true := by rw [h, Bool.or_true]
theorem upd_off {f : Nat → Bool} {i j : Nat} (h : (decide (j = i) || f j) = false) : f j = false := by simp at h; exact h.2
section
variable {w0 w w' : World} {X off : Nat} {T : TypeId} {ds : List Value} {b : Nat} {E : TypeId} {k : Nat} {v : Value} {n : Nat} {xs row : List Value} {il ib ia ist : Nat} {f : Nat → Bool}
  {val : Nat → Option Value} {a0 a : Act} {sl : List (Nat × Nat)}
/-- the region's invariant -/
abbrev AP (a0 : Act) (sl : List (Nat × Nat)) (val : Nat → Option Value) (w0 : World) (X off : Nat) (T : TypeId) (ds : List Value) (b : Nat) (E : TypeId) (k : Nat) (v : Value) (n : Nat) (xs row : List Value) (il ib ia ist : Nat) : (Nat → Bool) → Act → World → Prop :=
  Slots a0 sl (apS val (apE w0.heap.size b E k v n xs row ib ia)) (AW w0 X off T ds b E k v n xs row il ia ist)
theorem AP.start (hb : Blk w0 X T ds) (hd : ds[off]? = some v) (ho : w0.ownsRow b E k v n xs) : AP a0 sl val w0 X off T ds b E k v n xs row il ib ia ist (fun _ => false) a0 w0.drew :=
  Slots.start ⟨(Kept.refl _ _).drew, (fun e => by cases e), (fun e => by cases e), fun _ => owns_kept ho (Kept.refl _ _).drew, v, by
    have e : ds.set off v = ds := by
      obtain ⟨h1, h2⟩ := List.getElem?_eq_some_iff.1 hd
      rw [← h2, List.set_getElem_self]
    rw [e]
    exact hb.drew, fun _ => rfl, (fun e => by cases e)⟩
theorem AW.step (h : AW w0 X off T ds b E k v n xs row il ia ist f w) (hk : Kept noB w w') {i : Nat} (h2 : i ≠ ia) (h3 : i ≠ ist) : AW w0 X off T ds b E k v n xs row il ia ist (fun j => decide (j = i) || f j) w' := by
  obtain ⟨k1, o1, o2, old, u, hb, hu, ho⟩ := h
  refine ⟨k1.no hk, ?_, ?_, ?_, u, hb.kept hk (fun e => e), ?_, ?_⟩
  · simp only [upd_ne' h3]; exact fun e => upd_le' (o1 e)
  · simp only [upd_ne' h2]; exact fun e => upd_le' (o2 e)
  · simp only [upd_ne' h2]; exact fun e => owns_kept (old e) hk
  · simp only [upd_ne' h3]; exact hu
  · simp only [upd_ne' h3]; exact fun e => ⟨owns_kept (ho e).1 hk, (ho e).2⟩
theorem apS_kept {H : Nat} (hk : Kept noB w w') {i j : Nat} {u : Value} (hj : i ≠ ia) (h : apS val (apE H b E k v n xs row ib ia) j f w u) : apS val (apE H b E k v n xs row ib ia) j (fun x => decide (x = i) || f x) w' u := by
  unfold apS at h ⊢
  cases hv : val j with
  | some x => rw [hv] at h; exact h
  | none =>
    rw [hv] at h
    refine ⟨fun e h0 => ?_, fun e => ?_⟩
    · simp only [upd_ne' hj] at h0
      obtain ⟨g, h1, h2, h3⟩ := h.1 e h0
      exact ⟨g, h1, h2, h3.kept hk (fun e => e)⟩
    · obtain ⟨h1, h2⟩ := h.2 e
      exact ⟨owns_kept h1 hk, h2⟩
/-- a pure operation, or a call that makes memory alone -/
theorem AP.one (hI : AP a0 sl val w0 X off T ds b E k v n xs row il ib ia ist f a w) {i d : Nat} {u : Value} (hok : slotsOk a0.tmps.size sl = true) (hd : (i, d) ∈ sl) (hv : val i = some u) (h2 : i ≠ ia) (h3 : i ≠ ist) (hk : Kept noB w w') :
    AP a0 sl val w0 X off T ds b E k v n xs row il ib ia ist (fun j => decide (j = i) || f j) (a.put (some d) u) w' :=
  hI.put hok hd (hI.world.step hk h2 h3) (by unfold apS; rw [hv]) (fun _ _ _ _ h => apS_kept hk h2 h)
/-- the new element's cell -/
theorem AP.build (hI : AP a0 sl val w0 X off T ds b E k v n xs row il ib ia ist f a w) {d : Nat} (hok : slotsOk a0.tmps.size sl = true) (hd : (ib, d) ∈ sl) (hv : val ib = none) (h2 : ib ≠ ia) (h3 : ib ≠ ist) :
    AP a0 sl val w0 X off T ds b E k v n xs row il ib ia ist (fun j => decide (j = ib) || f j) (a.put (some d) (.slice (some ⟨w.heap.size, 0, none⟩) 1 1)) (w.alloc (.cells row.toArray E)) :=
  hI.put hok hd (hI.world.step ((Kept.refl _ _).alloc _) h2 h3) (by
    unfold apS
    rw [hv]
    exact ⟨fun _ _ => ⟨w.heap.size, hI.world.kept.size, rfl, Blk.new w E row⟩, fun e => absurd e h2⟩) (fun _ _ _ _ h => apS_kept ((Kept.refl _ _).alloc _) h2 h)
theorem AP.cell (hI : AP a0 sl val w0 X off T ds b E k v n xs row il ib ia ist f a w) (hf : f il = false) (hd : ds[off]? = some v) : w.cell? ⟨X, off, none⟩ = some v := by
  obtain ⟨k1, o1, o2, old, u, hb, hu, ho⟩ := hI.world
  have hs : f ist = false := by
    cases h : f ist with
    | false => rfl
    | true => rw [o2 (o1 h)] at hf; cases hf
  rw [hb.cell, hu hs, List.getElem?_set_self (List.getElem?_eq_some_iff.1 hd).1]
theorem AP.far (hI : AP a0 sl val w0 X off T ds b E k v n xs row il ib ia ist f a w) {j : Nat} {u : Value} (hj : j ≠ off) (hd : ds[j]? = some u) : w.cell? ⟨X, j, none⟩ = some u := by
  obtain ⟨k1, o1, o2, old, u', hb, hu, ho⟩ := hI.world
  rw [hb.cell, List.getElem?_set_ne (fun e => hj e.symm), hd]
theorem AP.kept (hI : AP a0 sl val w0 X off T ds b E k v n xs row il ib ia ist f a w) : Kept (apK X v) w0 w := hI.world.kept
theorem AP.get (hI : AP a0 sl val w0 X off T ds b E k v n xs row il ib ia ist f a w) {i d : Nat} {u : Value} (hd : (i, d) ∈ sl) (hv : val i = some u) (hf : f i = true) : a.eval (.tmp d) = u := by
  have := hI.eval hd hf
  unfold apS at this
  rwa [hv] at this
/-- the append -/
theorem AP.app {P : Program} {o : Oper} {Q : Exit → Act → World → Prop} (hI : AP a0 sl val w0 X off T ds b E k v n xs row il ib ia ist f a w) {d d1 d2 : Nat} (hok : slotsOk a0.tmps.size sl = true) (hd : (ia, d) ∈ sl) (hdst : o.dst = some d) (hv : val ia = none)
    (t : TypeId) (ho : o.op = .call { callee := .builtin .append, args := #[.tmp d1, .tmp d2], argTypes := #[t, t] }) (hs : a.eval (.tmp d1) = v) (hfi : f ia = false) (hfl : f il = true) (hd2 : (ib, d2) ∈ sl) (hvb : val ib = none) (hfb : f ib = true) (hba : ib ≠ ia) (has : ia ≠ ist)
    (i : TypeInfo) (z : Value) (bytes : Nat) (ht : P.underlying t = some (.slice E)) (hi : P.info? E = some i) (hz : i.zero = some z) (hsize : i.size = k) (hby : i.bytes = bytes) (hzs : z.cells.size = k) (hsz : 0 < k)
    (hl : row.length = k) (h1 : ∀ u ∈ row, u.oneCell' = true) (h63 : n + 1 ≤ maxLen) (hbytes : (n + 1) * bytes ≤ 140737488355328) (hbase : b ≤ w0.heap.size) (hX : v.ownBlock ≠ some X) (hlt : ∀ g, v.ownBlock = some g → g < w0.heap.size) (hXl : X < w0.heap.size) :
    o.wp P a w (AP a0 sl val w0 X off T ds b E k v n xs row il ib ia ist (fun j => decide (j = ia) || f j)) Q := by
  have hslot := hI.eval hd2 hfb
  unfold apS at hslot
  rw [hvb] at hslot
  obtain ⟨g, hg, hsl, hB⟩ := hslot.1 rfl hfi
  have hown := hI.world.old hfi
  have hW := hI.world
  refine wp_append_lies w (.tmp d1) (.tmp d2) t ho b E i z k bytes ht hi hz hsize hby hzs hsz v n xs hs hown ⟨g, 0, none⟩ 1 1 row hsl (by rw [hl, Nat.one_mul]) (World.news_of_block hB) h1 (by decide) h63 hbytes (Nat.le_trans hbase hW.kept.size) _ rfl ?_
  intro g6 cap6 w6 own6 grow6 hat6 hlt6
  rw [hdst]
  obtain ⟨k1, o1, o2, old, u, hb, hu, hos⟩ := hW
  have hne : some X ≠ v.ownBlock := fun e => hX e.symm
  have hfs : f ist = false := by
    cases h : f ist with
    | false => rfl
    | true => rw [o1 h] at hfi; cases hfi
  refine hI.put hok hd ⟨k1.grown grow6 (fun j e _ => .inr e), ?_, fun _ => upd_le' hfl, ?_, u, ?_, ?_, ?_⟩ ?_ ?_
  · intro _; simp
  · intro e; simp at e
  · exact (grow6.block X hb.lt hne).trans hb
  · simp only [upd_ne' has]; exact hu
  · simp only [upd_ne' has]; intro e; rw [hfs] at e; cases e
  · unfold apS
    rw [hv]
    refine ⟨fun e => absurd e.symm hba, fun _ => ⟨own6, ?_⟩⟩
    rcases hat6 with h | h
    · exact .inl (by rw [h]; rfl)
    · refine .inr (fun g e => ?_)
      have e' : g6 = g := by injection e
      rw [← e', h]
      exact k1.size
  · intro p _ hp hfp hS
    unfold apS at hS ⊢
    cases hvp : val p.1 with
    | some x => rw [hvp] at hS; exact hS
    | none =>
      rw [hvp] at hS
      refine ⟨fun _ h0 => ?_, fun e => absurd e hp⟩
      simp at h0
/-- the store -/
theorem AP.store (hI : AP a0 sl val w0 X off T ds b E k v n xs row il ib ia ist f a w) (hno : ∀ p ∈ sl, p.1 ≠ ist) {d2 : Nat} (hd2 : (ia, d2) ∈ sl) (hv : val ia = none) (hfa : f ia = true) (has : ia ≠ ist) (hXb : ∀ g, v.ownBlock = some g → g ≠ X) (hXl : X < w0.heap.size) (hol : off < ds.length) :
    ∃ u, a.eval (.tmp d2) = u ∧ (u = .slice none 0 0 ∨ ∃ g c, u = .slice (some ⟨g, 0, none⟩) (n + 1) c) ∧ (∃ x, w.cell? ⟨X, off, none⟩ = some x) ∧ w.frozen? ⟨X, off, none⟩ = false ∧
    ∀ z, AP a0 sl val w0 X off T ds b E k v n xs row il ib ia ist (fun j => decide (j = ist) || f j) (a.put none z) (w.setCell ⟨X, off, none⟩ u) := by
  have hslot := hI.eval hd2 hfa
  unfold apS at hslot
  rw [hv] at hslot
  obtain ⟨own, hat⟩ := hslot.2 rfl
  generalize hu : a.eval (.tmp d2) = u at own hat
  obtain ⟨k1, o1, o2, old, u0, hb, hu0, hos⟩ := hI.world
  refine ⟨u, rfl, owns_form own, ?_, hb.frozen _, fun z => ?_⟩
  · rw [hb.cell, List.getElem?_set_self hol]
    exact ⟨_, rfl⟩
  · have hne : u.ownBlock ≠ some X := by
      intro e
      rcases hat with h | h
      · exact hXb X (h ▸ e) rfl
      · have := h X e; omega
    have hk : Kept (oneB X) w (w.setCell ⟨X, off, none⟩ u) := Kept.setOne _ _ _ _
    refine hI.pass hno ⟨k1.setCell (fun _ => .inl rfl) _, fun _ => upd_le' hfa, ?_, ?_, u, ?_, ?_, ?_⟩ ?_
    · simp only [upd_ne' (fun e => has e.symm : ist ≠ ia)]; exact fun e => upd_le' (o2 e)
    · simp only [upd_ne' (fun e => has e.symm : ist ≠ ia)]; intro e; rw [hfa] at e; cases e
    · have := hb.set off u
      rwa [List.set_set] at this
    · intro e; simp at e
    · exact fun _ => ⟨owns_keptO own hk hne, hat⟩
    · intro p _ hp hfp hS
      unfold apS at hS ⊢
      cases hvp : val p.1 with
      | some x => rw [hvp] at hS; exact hS
      | none =>
        rw [hvp] at hS
        refine ⟨fun e h0 => ?_, fun e => ?_⟩
        · simp only [upd_ne' (fun e => has e.symm : ist ≠ ia)] at h0
          rw [hfa] at h0
          cases h0
        · obtain ⟨h1, h2⟩ := hS.2 e
          refine ⟨owns_keptO h1 hk ?_, h2⟩
          intro e'
          rcases h2 with h | h
          · exact hXb X (h ▸ e') rfl
          · have := h X e'; omega
theorem AP.finish (hI : AP a0 sl val w0 X off T ds b E k v n xs row il ib ia ist f a w) (hf : f ist = true) : ∃ u, Blk w X T (ds.set off u) ∧ w.ownsRow b E k u (n + 1) (xs ++ row) ∧ (u.ownBlock = v.ownBlock ∨ ∀ g, u.ownBlock = some g → w0.heap.size ≤ g) ∧ Kept (apK X v) w0 w := by
  obtain ⟨k1, o1, o2, old, u, hb, hu, ho⟩ := hI.world
  exact ⟨u, hb, (ho hf).1, (ho hf).2, k1⟩
end
end Go.Proofs.Ytngpfjmifaecjaa
