/- '==' on structs and arrays of booleans, numbers and texts: cell by cell. No condition. -/
import Derived.Test.YtngpfjmifaecjaaKt
import Derived.Laws.StructEq
import Derived.ChangeKeysEq
import Derived.Laws.Rows
namespace Go.Proofs.Ytngpfjmifaecjaa
open Go.RowKit
inductive Leaf where
  | b
  | i (k : IntKind)
  | s
def Leaf.fit : Leaf → Value → Prop
  | .b, v => ∃ x, v = .bool x
  | .i k, v => ∃ n, v = .int k n
  | .s, v => ∃ x, v = .string x
def fits : List Leaf → List Value → Prop
  | [], [] => True
  | k :: ks, v :: vs => k.fit v ∧ fits ks vs
  | _, _ => False
def eqCell : Value → Value → Bool
  | .bool a, .bool b => a == b
  | .int _ a, .int _ b => a == b
  | .string a, .string b => a.toList == b.toList
  | _, _ => false
def eqCells : List Value → List Value → Bool
  | [], [] => true
  | x :: xs, y :: ys => eqCell x y && eqCells xs ys
  | _, _ => false
theorem fits_length : ∀ {ks : List Leaf} {xs : List Value}, fits ks xs → xs.length = ks.length
  | [], [], _ => rfl
  | _ :: _, _ :: _, h => by simp [fits_length h.2]
theorem fits_append : ∀ {ks ls : List Leaf} {xs : List Value}, fits (ks ++ ls) xs → ∃ a b, xs = a ++ b ∧ fits ks a ∧ fits ls b
  | [], ls, xs, h => ⟨[], xs, rfl, trivial, h⟩
  | k :: ks, ls, x :: xs, h => by
    obtain ⟨a, b, rfl, ha, hb⟩ := fits_append h.2
    exact ⟨x :: a, b, rfl, ⟨h.1, ha⟩, hb⟩
theorem eqCells_append : ∀ {a a' b b' : List Value}, a.length = a'.length → eqCells (a ++ b) (a' ++ b') = (eqCells a a' && eqCells b b')
  | [], [], _, _, _ => by simp [eqCells]
  | x :: a, y :: a', b, b', h => by
    simp only [List.cons_append, eqCells, Bool.and_assoc]
    rw [eqCells_append (by simpa using h)]
theorem eqCell_self {k : Leaf} {v : Value} (h : k.fit v) : eqCell v v = true := by
  cases k <;> obtain ⟨x, rfl⟩ := h <;> simp [eqCell]
theorem eqCells_self : ∀ {ks : List Leaf} {xs : List Value}, fits ks xs → eqCells xs xs = true
  | [], [], _ => rfl
  | _ :: _, _ :: _, h => by simp [eqCells, eqCell_self h.1, eqCells_self h.2]
theorem eqCell_iff {k : Leaf} {v v' : Value} (h : k.fit v) (h' : k.fit v') : eqCell v v' = true ↔ v = v' := by
  cases k <;> obtain ⟨x, rfl⟩ := h <;> obtain ⟨y, rfl⟩ := h' <;> simp [eqCell]
  rw [ByteArray.toList_eq, ByteArray.toList_eq]
  exact ⟨fun h => ByteArray.ext (Array.ext' h), fun h => by rw [h]⟩
theorem eqCells_iff : ∀ {ks : List Leaf} {xs ys : List Value}, fits ks xs → fits ks ys → (eqCells xs ys = true ↔ xs = ys)
  | [], [], [], _, _ => by simp [eqCells]
  | _ :: _, _ :: _, _ :: _, h, h' => by simp [eqCells, eqCell_iff h.1 h'.1, eqCells_iff h.2 h'.2]
section
variable {P : Program}
def fieldLeaves (L : TypeId → Option (List Leaf)) : Nat → List Field → Option (List Leaf)
  | _, [] => some []
  | off, f :: fs => if f.name = "_" ∨ f.offset ≠ off then none else
    match L f.type with
    | none => none
    | some a => match fieldLeaves L (off + a.length) fs with
      | none => none
      | some b => some (a ++ b)
def leavesOf (P : Program) : Nat → TypeId → Option (List Leaf)
  | 0, _ => none
  | d + 1, t =>
    match P.underlying t with
    | some .bool => some [.b]
    | some (.int k) => some [.i k]
    | some .string => some [.s]
    | some (.struct fs) => if P.stoodInHeld t = true then none else
      match fieldLeaves (leavesOf P d) 0 fs.toList with
      | none => none
      | some ks => if (P.info? t).map (·.size) = some ks.length then some ks else none
    | some (.array n e) =>
      match leavesOf P d e with
      | none => none
      | some a => if (P.info? e).map (·.size) = some a.length ∧ (P.info? t).map (·.size) = some (n * a.length) then some (List.replicate n a).flatten else none
    | _ => none
def aggT (P : Program) (t : TypeId) : Bool := match P.underlying t with | some (.struct _) | some (.array _ _) => true | _ => false
def valOf (P : Program) (t : TypeId) (cs : List Value) : Value := if aggT P t then .agg cs.toArray else cs.headD undef
theorem leaves_one {d : Nat} {t : TypeId} {ks : List Leaf} (h : leavesOf P d t = some ks) (ha : aggT P t = false) : ks.length = 1 := by
  cases d with
  | zero => simp [leavesOf] at h
  | succ d =>
    unfold leavesOf at h
    unfold aggT at ha
    split at h <;> simp_all
    all_goals (subst h; rfl)
theorem leaves_size {d : Nat} {t : TypeId} {ks : List Leaf} (h : leavesOf P d t = some ks) (ha : aggT P t = true) : (P.info? t).map (·.size) = some ks.length := by
  cases d with
  | zero => simp [leavesOf] at h
  | succ d =>
    unfold leavesOf at h
    unfold aggT at ha
    split at h
    · simp_all
    · simp_all
    · simp_all
    · split at h
      · cases h
      · split at h
        · cases h
        · split at h
          · rename_i hs
            cases h
            exact hs
          · cases h
    · split at h
      · cases h
      · split at h
        · rename_i hs
          cases h
          rw [hs.2]
          simp
        · cases h
    · cases h
theorem run_part_leaves {d : Nat} {t : TypeId} {ks : List Leaf} (h : leavesOf P d t = some ks) (pre a post : List Value) (hf : fits ks a) (w : World) :
    (part t (pre ++ (a ++ post)).toArray pre.length).run P w = .ok (valOf P t a) w := by
  cases ha : aggT P t with
  | true =>
    have hs := leaves_size h ha
    cases hi : P.info? t with
    | none => simp [hi] at hs
    | some i =>
      have hsz : i.size = a.length := by rw [fits_length hf]; simpa [hi] using hs
      have hagg : (isAgg t).run P w = .ok true w := by
        unfold aggT at ha
        unfold isAgg
        cases hu : P.underlying t with
        | none => simp [hu] at ha
        | some dd => rw [Sem.run_bind, run_underlying hu w]; cases dd <;> simp_all
      unfold part
      rw [Sem.run_bind, hagg]
      simp only [Result.andThen_ok, if_true, Sem.run_bind, run_sizeOf w hi, Program.cellsOf, hi, Option.map_some, Option.getD_some, hsz, Sem.run_pure, valOf, ha]
      congr 2
      simp [List.extract_toArray]
  | false =>
    have h1 := leaves_one h ha
    have hl := fits_length hf
    match a, hl.trans h1 with
    | [v], _ =>
      have hagg : (isAgg t).run P w = .ok false w := by
        cases d with
        | zero => simp [leavesOf] at h
        | succ d =>
          unfold leavesOf at h
          unfold aggT at ha
          unfold isAgg
          cases hu : P.underlying t with
          | none => simp [hu] at h
          | some dd => rw [Sem.run_bind, run_underlying hu w]; cases dd <;> simp_all
      unfold part
      rw [Sem.run_bind, hagg]
      have hg : (pre ++ ([v] ++ post)).toArray[pre.length]? = some v := by simp
      simp only [Result.andThen_ok, Bool.false_eq_true, if_false, hg, Sem.run_pure, valOf, ha]
      rfl
def EqL (P : Program) (dd : Nat) (t : TypeId) (ks : List Leaf) : Prop := ∀ (w : World) (xs ys : List Value), fits ks xs → fits ks ys → (Op.equalIn dd t (valOf P t xs) (valOf P t ys)).run P w = .ok (eqCells xs ys) w
theorem run_fields_leaves (dd : Nat) (L : TypeId → Option (List Leaf)) (hL : ∀ t ks, L t = some ks → EqL P dd t ks ∧ ∃ d, leavesOf P d t = some ks) (w : World) :
    ∀ (fs : List Field) (pre pre' a a' : List Value) (ks : List Leaf), pre.length = pre'.length → fieldLeaves L pre.length fs = some ks → fits ks a → fits ks a' →
      (Op.eqFields dd (pre ++ a).toArray (pre' ++ a').toArray fs).run P w = .ok (eqCells a a') w
  | [], pre, pre', a, a', ks, _, h, ha, ha' => by
    cases h
    match a, a', ha, ha' with
    | [], [], _, _ => simp [Op.eqFields, eqCells]
  | f :: fs, pre, pre', a, a', ks, hp, h, ha, ha' => by
    unfold fieldLeaves at h
    split at h
    · cases h
    · rename_i hc
      have hn : f.name ≠ "_" := fun e => hc (.inl e)
      have ho : f.offset = pre.length := Decidable.byContradiction fun e => hc (.inr e)
      split at h
      · cases h
      · rename_i ka hka
        split at h
        · cases h
        · rename_i kb hkb
          cases h
          obtain ⟨hE, d, hd⟩ := hL _ _ hka
          obtain ⟨x, b, rfl, hx, hb⟩ := fits_append ha
          obtain ⟨x', b', rfl, hx', hb'⟩ := fits_append ha'
          have hlx : x.length = x'.length := by rw [fits_length hx, fits_length hx']
          have p1 := run_part_leaves hd pre x b hx w
          have p2 := run_part_leaves hd pre' x' b' hx' w
          have ih := run_fields_leaves dd L hL w fs (pre ++ x) (pre' ++ x') b b' kb (by simp [hp, hlx]) (by rw [List.length_append, fits_length hx]; exact hkb) hb hb'
          rw [List.append_assoc, List.append_assoc] at ih
          simp only [Op.eqFields, ne_eq, hn, not_false_eq_true, if_true, Sem.run_bind, ho, p1, Result.andThen_ok]
          rw [hp, p2]
          simp only [Result.andThen_ok, hE w x x' hx hx', eqCells_append hlx]
          cases eqCells x x'
          · simp
          · simpa using ih
theorem fits_flat {a : List Leaf} : ∀ {n : Nat} {xs : List Value}, fits (List.replicate (n + 1) a).flatten xs → ∃ x r, xs = x ++ r ∧ fits a x ∧ fits (List.replicate n a).flatten r := by
  intro n xs h
  rw [List.replicate_succ, List.flatten_cons] at h
  exact fits_append h
theorem run_items_leaves (dd d : Nat) (e : TypeId) (ka : List Leaf) (hE : EqL P dd e ka) (hd : leavesOf P d e = some ka) (hc : P.cellsOf e = ka.length) (w : World) :
    ∀ (n i : Nat) (pre pre' a a' : List Value), pre.length = i * ka.length → pre'.length = i * ka.length → fits (List.replicate n ka).flatten a → fits (List.replicate n ka).flatten a' →
      (Op.eqItems dd e (P.cellsOf e) (pre ++ a).toArray (pre' ++ a').toArray (List.range' i n)).run P w = .ok (eqCells a a') w
  | 0, i, pre, pre', a, a', _, _, ha, ha' => by
    simp only [List.replicate_zero, List.flatten_nil] at ha ha'
    match a, a', ha, ha' with
    | [], [], _, _ => simp [Op.eqItems, eqCells]
  | n + 1, i, pre, pre', a, a', h1, h2, ha, ha' => by
    obtain ⟨x, b, rfl, hx, hb⟩ := fits_flat ha
    obtain ⟨x', b', rfl, hx', hb'⟩ := fits_flat ha'
    have hlx : x.length = x'.length := by rw [fits_length hx, fits_length hx']
    have p1 := run_part_leaves hd pre x b hx w
    have p2 := run_part_leaves hd pre' x' b' hx' w
    have ih := run_items_leaves dd d e ka hE hd hc w n (i + 1) (pre ++ x) (pre' ++ x') b b' (by rw [List.length_append, h1, fits_length hx, Nat.succ_mul]) (by rw [List.length_append, h2, fits_length hx', Nat.succ_mul]) hb hb'
    rw [List.append_assoc, List.append_assoc] at ih
    rw [List.range'_succ]
    simp only [Op.eqItems, Sem.run_bind]
    rw [hc, ← h1, p1]
    simp only [Result.andThen_ok]
    rw [h1, ← h2, p2]
    simp only [Result.andThen_ok, hE w x x' hx hx', eqCells_append hlx]
    cases eqCells x x'
    · simp
    · rw [hc] at ih
      simpa using ih
theorem run_eq_leaves (d : Nat) : ∀ (m : Nat) (t : TypeId) (ks : List Leaf), leavesOf P m t = some ks → EqL P (d + m) t ks
  | 0, _, _, h => by simp [leavesOf] at h
  | m + 1, t, ks, h => by
    intro w xs ys hx hy
    have h0 := h
    unfold leavesOf at h
    cases hu : P.underlying t with
    | none => simp [hu] at h
    | some kd =>
      cases kd
      case bool =>
        simp only [hu, Option.some.injEq] at h
        subst h
        match xs, ys, hx, hy with
        | [_], [_], ⟨⟨x, rfl⟩, _⟩, ⟨⟨y, rfl⟩, _⟩ =>
          have := run_equalIn_bool w (d + m) t x y hu
          rw [Nat.add_assoc] at this
          simpa [valOf, aggT, hu, eqCells, eqCell] using this
      case int k =>
        simp only [hu, Option.some.injEq] at h
        subst h
        match xs, ys, hx, hy with
        | [_], [_], ⟨⟨x, rfl⟩, _⟩, ⟨⟨y, rfl⟩, _⟩ =>
          have := run_equalIn_int w (d + m) t k k x y hu
          rw [Nat.add_assoc] at this
          simpa [valOf, aggT, hu, eqCells, eqCell] using this
      case string =>
        simp only [hu, Option.some.injEq] at h
        subst h
        match xs, ys, hx, hy with
        | [_], [_], ⟨⟨x, rfl⟩, _⟩, ⟨⟨y, rfl⟩, _⟩ =>
          have := run_equalIn_string w (d + m) t x y hu
          rw [Nat.add_assoc] at this
          simpa [valOf, aggT, hu, eqCells, eqCell] using this
      case struct fs =>
        simp only [hu] at h
        have hagg : aggT P t = true := by simp [aggT, hu]
        have hfs : P.fieldsOf t = fs := by simp [Program.fieldsOf, hu]
        split at h
        · cases h
        · rename_i hst
          split at h
          · cases h
          · rename_i ks' hks
            split at h
            · cases h
              have hr := run_equalIn_struct w (d + m) t xs.toArray ys.toArray (by rw [hfs]; exact hu) (by simpa using hst)
              have := run_fields_leaves (d + m) (leavesOf P m) (fun t' k' h' => ⟨run_eq_leaves d m t' k' h', m, h'⟩) w fs.toList [] [] xs ys _ rfl hks hx hy
              rw [hfs] at hr
              simp only [valOf, hagg, if_true]
              rw [← Nat.add_assoc, hr]
              simpa using this
            · cases h
      case array n e =>
        simp only [hu] at h
        have hagg : aggT P t = true := by simp [aggT, hu]
        split at h
        · cases h
        · rename_i ka hka
          split at h
          · rename_i hs
            cases h
            cases hi : P.info? e with
            | none => simp [hi] at hs
            | some i =>
              have hc : P.cellsOf e = ka.length := by
                have := hs.1
                simpa [Program.cellsOf, hi] using this
              have hr := run_equalIn_array (P := P) (w := w) (d + m) xs.toArray ys.toArray hu hi
              have := run_items_leaves (d + m) m e ka (run_eq_leaves d m e ka hka) hka hc w n 0 [] [] xs ys (by simp) (by simp) hx hy
              simp only [valOf, hagg, if_true]
              rw [← Nat.add_assoc, hr, List.range_eq_range']
              simpa using this
          · cases h
      all_goals simp [hu] at h
/-- '==' on two structs (arrays) -/
theorem run_eql_leaves {m : Nat} {t : TypeId} {ks : List Leaf} (h : leavesOf P m t = some ks) (hm : m ≤ 10000) (ha : aggT P t = true) (xs ys : List Value) (hx : fits ks xs) (hy : fits ks ys) (w : World) :
    (binOp .eql t (.agg xs.toArray) (.agg ys.toArray)).run P w = .ok (.bool (eqCells xs ys)) w := by
  have e := run_eq_leaves (10000 - m) m t ks h w xs ys hx hy
  rw [Nat.sub_add_cancel hm] at e
  simp only [valOf, ha, if_true] at e
  rw [run_eql_struct, e]
  rfl
theorem run_neq_leaves {m : Nat} {t : TypeId} {ks : List Leaf} (h : leavesOf P m t = some ks) (hm : m ≤ 10000) (ha : aggT P t = true) (xs ys : List Value) (hx : fits ks xs) (hy : fits ks ys) (w : World) :
    (binOp .neq t (.agg xs.toArray) (.agg ys.toArray)).run P w = .ok (.bool (!eqCells xs ys)) w := by
  have e := run_eq_leaves (10000 - m) m t ks h w xs ys hx hy
  rw [Nat.sub_add_cancel hm] at e
  simp only [valOf, ha, if_true] at e
  rw [run_neq_struct, e]
  rfl
/-- .. as an operation of a plain region -/
theorem wpList_eql_cells {ops : Array Oper} {rest : List Oper} {o : Oper} {a : Act} {w : World} {Q : Exit → Act → World → Prop} (hgd : o.guard = none) (t : TypeId) (x y : Operand) (yt : TypeId) (ho : o.op = .binOp .eql t x y yt)
    (xs ys : List Value) (hx : a.eval x = .agg xs.toArray) (hy : a.eval y = .agg ys.toArray) {m : Nat} {ks : List Leaf} (h : leavesOf P m t = some ks) (hm : m ≤ 10000) (ha : aggT P t = true) (hg : P.eqGuardType P.depth t = false)
    (fx : fits ks xs) (fy : fits ks ys) (hK : wpList P ops Q rest (a.put o.dst (.bool (eqCells xs ys))) w) : wpList P ops Q (o :: rest) a w :=
  wpList_plain hgd fun _ hK' => by
    have hr : (execOp a.eval o).run P w = .ok (.value (.bool (eqCells xs ys))) w := by
      unfold execOp
      simp only [ho, hx, hy, Sem.run_bind, run_eqGuard_agg w .eql t x y xs.toArray ys.toArray hg, Result.andThen_ok, run_eql_leaves h hm ha xs ys fx fy w, Sem.run_pure]
    unfold Oper.wp
    rw [hr]
    exact hK' _ _ hK
theorem wpList_neq_cells {ops : Array Oper} {rest : List Oper} {o : Oper} {a : Act} {w : World} {Q : Exit → Act → World → Prop} (hgd : o.guard = none) (t : TypeId) (x y : Operand) (yt : TypeId) (ho : o.op = .binOp .neq t x y yt)
    (xs ys : List Value) (hx : a.eval x = .agg xs.toArray) (hy : a.eval y = .agg ys.toArray) {m : Nat} {ks : List Leaf} (h : leavesOf P m t = some ks) (hm : m ≤ 10000) (ha : aggT P t = true) (hg : P.eqGuardType P.depth t = false)
    (fx : fits ks xs) (fy : fits ks ys) (hK : wpList P ops Q rest (a.put o.dst (.bool (!eqCells xs ys))) w) : wpList P ops Q (o :: rest) a w :=
  wpList_plain hgd fun _ hK' => by
    have hr : (execOp a.eval o).run P w = .ok (.value (.bool (!eqCells xs ys))) w := by
      unfold execOp
      simp only [ho, hx, hy, Sem.run_bind, run_eqGuard_agg w .neq t x y xs.toArray ys.toArray hg, Result.andThen_ok, run_neq_leaves h hm ha xs ys fx fy w, Sem.run_pure]
    unfold Oper.wp
    rw [hr]
    exact hK' _ _ hK
/-- .. in a region that draws its order -/
theorem wpQuiet_eql_cells {ops : Array Oper} {C : World → Prop} {Q : Act → Prop} {rest : List Oper} {o : Oper} {a : Act} (hw : Region.wanted o (yielded ops a.tmps) = true) (t : TypeId) (x y : Operand) (yt : TypeId) (ho : o.op = .binOp .eql t x y yt)
    (xs ys : List Value) (hx : a.eval x = .agg xs.toArray) (hy : a.eval y = .agg ys.toArray) {m : Nat} {ks : List Leaf} (h : leavesOf P m t = some ks) (hm : m ≤ 10000) (ha : aggT P t = true) (hg : P.eqGuardType P.depth t = false)
    (fx : fits ks xs) (fy : fits ks ys) (hK : wpQuiet P ops C Q rest (a.put o.dst (.bool (eqCells xs ys)))) : wpQuiet P ops C Q (o :: rest) a := by
  unfold wpQuiet
  rw [if_pos hw]
  refine ⟨.bool (eqCells xs ys), fun w _ => ?_, hK⟩
  unfold Oper.quietAt execOp
  simp only [ho, hx, hy, Sem.run_bind, run_eqGuard_agg w .eql t x y xs.toArray ys.toArray hg, Result.andThen_ok, run_eql_leaves h hm ha xs ys fx fy w, Sem.run_pure]
  exact ⟨rfl, rfl⟩
theorem wpQuiet_neq_cells {ops : Array Oper} {C : World → Prop} {Q : Act → Prop} {rest : List Oper} {o : Oper} {a : Act} (hw : Region.wanted o (yielded ops a.tmps) = true) (t : TypeId) (x y : Operand) (yt : TypeId) (ho : o.op = .binOp .neq t x y yt)
    (xs ys : List Value) (hx : a.eval x = .agg xs.toArray) (hy : a.eval y = .agg ys.toArray) {m : Nat} {ks : List Leaf} (h : leavesOf P m t = some ks) (hm : m ≤ 10000) (ha : aggT P t = true) (hg : P.eqGuardType P.depth t = false)
    (fx : fits ks xs) (fy : fits ks ys) (hK : wpQuiet P ops C Q rest (a.put o.dst (.bool (!eqCells xs ys)))) : wpQuiet P ops C Q (o :: rest) a := by
  unfold wpQuiet
  rw [if_pos hw]
  refine ⟨.bool (!eqCells xs ys), fun w _ => ?_, hK⟩
  unfold Oper.quietAt execOp
  simp only [ho, hx, hy, Sem.run_bind, run_eqGuard_agg w .neq t x y xs.toArray ys.toArray hg, Result.andThen_ok, run_neq_leaves h hm ha xs ys fx fy w, Sem.run_pure]
  exact ⟨rfl, rfl⟩
/-- a whole struct out of a block, guarded or not -/
theorem wpQuiet_load_rowG {ops : Array Oper} {C : World → Prop} {Q : Act → Prop} {rest : List Oper} {o : Oper} {a : Act} (hw : Region.wanted o (yielded ops a.tmps) = true) (ty : TypeId) (x : Operand) (ho : o.op = .load ty x)
    (g : Nat) (hx : a.eval x = .pointer (some ⟨g, 0, none⟩)) (t : TypeId) (cs : Array Value) (fr : Nat × Nat) (d : TypeDesc) (hg : ∀ w, C w → w.heap[g]? = some (.cells cs t fr))
    (hu : P.underlying ty = some d) (hd : (match d with | .struct _ | .array _ _ => true | _ => false) = true) (hi : (P.info? ty).map (·.size) = some cs.size)
    (h : wpQuiet P ops C Q rest (a.put o.dst (.agg cs))) : wpQuiet P ops C Q (o :: rest) a := by
  unfold wpQuiet
  rw [if_pos hw]
  refine ⟨.agg cs, fun w hC => ?_, h⟩
  unfold Oper.quietAt execOp
  simp only [ho, hx, Instr.loadAt, Instr.sureAddr, Sem.run_bind, Sem.run_pure, Result.andThen_ok, run_loadVar_row w g t ty cs fr d (hg w hC) hu hd hi]
  exact ⟨rfl, rfl⟩
end
end Go.Proofs.Ytngpfjmifaecjaa
