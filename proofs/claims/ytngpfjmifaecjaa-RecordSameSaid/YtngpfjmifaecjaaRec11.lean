/- RecordSame, walked. Conditions: the arguments' numbers are of their kinds. (Printed by wip/mkrec11.py.) -/
import Derived.Test.YtngpfjmifaecjaaRec11c
import Derived.Test.YtngpfjmifaecjaaAbsW
namespace Go.Proofs.Ytngpfjmifaecjaa
open Go.RowKit
set_option linter.unusedSimpArgs false
theorem RecOwn.far {b g : Nat} {w w' : World} {r : Rec} {P V S F : Value} {cs : List Value} (h : RecOwn b w r P V S F) (hb : Blk w g 63 cs) (hk : Kept (oneB g) w w') : RecOwn b w' r P V S F :=
  ⟨owns_keptO h.ports hk (owns_ne h.ports hb (by decide)), owns_keptO h.vlans hk (owns_ne h.vlans hb (by decide)), owns_keptO h.stat hk (owns_ne h.stat hb (by decide)), owns_keptO h.fdb hk (owns_ne h.fdb hb (by decide))⟩
def madeG (H : Nat) (x : Inp) (w : World) (cs : List Value) : Prop := ∃ P V S F, cs = recC (made x) P V S F ∧ RecOwn H w (made x) P V S F
theorem madeG_stays (H : Nat) (x : Inp) : Stays 63 (madeG H x) :=
  ⟨fun _ _ _ hk ⟨P, V, S, F, e, own⟩ => ⟨P, V, S, F, e, own.kept hk⟩, fun _ _ _ _ _ hb hk ⟨P, V, S, F, e, own⟩ => ⟨P, V, S, F, e, own.far hb hk⟩⟩
def msE (H : Nat) (x y : Inp) (i : Nat) (w : World) (v : Value) : Prop :=
  (i = 1 → ∃ cs, v = .agg cs.toArray ∧ madeG H x w cs) ∧ (i = 3 → ∃ cs, v = .agg cs.toArray ∧ madeG H y w cs)
theorem msE_kept (H : Nat) (x y : Inp) (i : Nat) (w w' : World) (v : Value) (hk : Kept noB w w') (h : msE H x y i w v) : msE H x y i w' v :=
  ⟨fun e => by obtain ⟨cs, e1, h1⟩ := h.1 e; exact ⟨cs, e1, (madeG_stays H x).kept _ _ _ hk h1⟩, fun e => by obtain ⟨cs, e1, h1⟩ := h.2 e; exact ⟨cs, e1, (madeG_stays H y).kept _ _ _ hk h1⟩⟩
theorem msE_far (H : Nat) (x y : Inp) (i : Nat) (w w' : World) (g : Nat) (cs0 : List Value) (v : Value) (hb : Blk w g 63 cs0) (hk : Kept (oneB g) w w') (h : msE H x y i w v) : msE H x y i w' v :=
  ⟨fun e => by obtain ⟨cs, e1, h1⟩ := h.1 e; exact ⟨cs, e1, (madeG_stays H x).far _ _ _ _ _ hb hk h1⟩, fun e => by obtain ⟨cs, e1, h1⟩ := h.2 e; exact ⟨cs, e1, (madeG_stays H y).far _ _ _ _ _ hb hk h1⟩⟩
theorem run_allocR (w : World) : (Instr.alloc 63 true (.tuple #[])).run Try.prog w = .ok (.pointer (some ⟨w.heap.size, 0, none⟩)) (w.alloc (.cells zeroR.toArray 63)) := by kernel_rfl
theorem madeG_len {H : Nat} {x : Inp} {w : World} {cs : List Value} (hok : x.ok) (h : madeG H x w cs) : cs.length = 25 := by
  obtain ⟨P, V, S, F, rfl, _⟩ := h
  exact recC_len (made_ok hok) P V S F
theorem madeG_one {H : Nat} {x : Inp} {w : World} {cs : List Value} (hok : x.ok) (h : madeG H x w cs) : cs.toArray.all (·.oneCell') = true := by
  obtain ⟨P, V, S, F, rfl, own⟩ := h
  exact all_oneCell_toArray (recC_one (made_ok hok) own)
theorem madeG_st {H X : Nat} {x : Inp} {w : World} {cs : List Value} (hok : x.ok) (h : madeG H x w cs) (hb : Blk w X 63 cs) : ∃ P V S F, StAt w X (made x) P V S F := by
  obtain ⟨P, V, S, F, rfl, own⟩ := h
  exact ⟨P, V, S, F, made_ok hok, hb, own.at (made_ok hok)⟩
theorem len_size {cs : List Value} (h : cs.length = 25) : (Try.prog.info? 63).map (·.size) = some cs.toArray.size := by rw [List.size_toArray, h]; exact sizeR
theorem len_hold {cs : List Value} (h : cs.length = 25) : zeroR.toArray.size = cs.toArray.size := by rw [List.size_toArray, List.size_toArray, h]; rfl

def ms3D : List (Nat × Nat) := [(0, 26), (1, 27), (2, 28), (3, 29), (4, 7), (5, 8)]
def ms3V (xc yc : List Value) : Nat → Option Value
  | 0 => some (.agg xc.toArray)
  | 2 => some (.agg yc.toArray)
  | _ => none

theorem ms3ok (xc yc : List Value) (H : Nat) (x y : Inp) : TWok (ms3V xc yc) 63 (madeG H x) (madeG H y) 4 5 6 7 7 8 (msE H x y) ms3D :=
  ⟨madeG_stays H x, madeG_stays H y, msE_kept H x y, msE_far H x y, rfl, rfl, by decide, by decide, by decide, by decide, by decide, by decide, by decide⟩

theorem abs_frame {K : Act → World → Prop} {b : Act} {w : World} (F : Act → Prop) (key : ∀ b0, F b0 → K b0 w) (h : F b) : K b w := key b h
/-- what holds of the frame from here on -/
structure FA (b : Act) (a B X7 X9 : Nat) : Prop where
  size : b.tmps.size = 309
  defs : b.defers = []
  f2 : b.eval (.tmp 2) = .int .u8 (a : Int)
  f3 : b.eval (.tmp 3) = .pointer (some ⟨B, 0, none⟩)
  f7 : b.eval (.tmp 7) = .pointer (some ⟨X7, 0, none⟩)
  f9 : b.eval (.tmp 9) = .pointer (some ⟨X9, 0, none⟩)
theorem FA.keep {b b' : Act} {a B X7 X9 : Nat} {ds : List (Nat × Nat)} {S : Nat → (Nat → Bool) → World → Value → Prop} {W : (Nat → Bool) → World → Prop} {f : Nat → Bool} {w : World} (h : FA b a B X7 X9) (hI : Slots b ds S W f b' w) (hn : ∀ j ∈ [2, 3, 7, 9], j ∉ ds.map (·.2)) : FA b' a B X7 X9 :=
  ⟨hI.size.trans h.size, hI.defers.trans h.defs, (hI.old (hn 2 (by decide))).trans h.f2, (hI.old (hn 3 (by decide))).trans h.f3, (hI.old (hn 7 (by decide))).trans h.f7, (hI.old (hn 9 (by decide))).trans h.f9⟩
def ch24D : List (Nat × Nat) := [(0, 15)]
def ch24V  : Nat → Option Value
  | 0 => some (.bool false)
  | _ => none

def ch25D : List (Nat × Nat) := [(0, 189), (1, 190), (2, 191), (3, 16)]
def ch25V (X9 n k9 : Nat) (A : Option Addr) : Nat → Option Value
  | 0 => some (.pointer (some ⟨X9, 6, none⟩))
  | 1 => some (.slice A n k9)
  | 2 => some (.int .i64 (n : Int))
  | 3 => some (.int .i64 (n : Int))
  | _ => none

def ch26aD : List (Nat × Nat) := [(0, 192), (1, 193), (2, 194), (3, 195), (4, 196), (5, 197), (6, 198)]
def ch26aV (n a : Nat) : Nat → Option Value
  | 0 => some (.int .i64 (n : Int))
  | 1 => some (.bool false)
  | 2 => some (.bool false)
  | 3 => some (undef)
  | 4 => some (undef)
  | 5 => some (undef)
  | 6 => some (.bool false)
  | _ => none

def ch26bD : List (Nat × Nat) := [(0, 192), (1, 193), (2, 194), (3, 195), (4, 196), (5, 197), (6, 198)]
def ch26bV (n a : Nat) : Nat → Option Value
  | 0 => some (.int .i64 (n : Int))
  | 1 => some (.bool true)
  | 2 => some (.bool true)
  | 3 => some (.int .u8 (a : Int))
  | 4 => some (.int .u8 ((a : Int) % 4))
  | 5 => some (.bool false)
  | 6 => some (.bool false)
  | _ => none

def ch26cD : List (Nat × Nat) := [(0, 192), (1, 193), (2, 194), (3, 195), (4, 196), (5, 197), (6, 198)]
def ch26cV (n a : Nat) : Nat → Option Value
  | 0 => some (.int .i64 (n : Int))
  | 1 => some (.bool true)
  | 2 => some (.bool true)
  | 3 => some (.int .u8 (a : Int))
  | 4 => some (.int .u8 ((a : Int) % 4))
  | 5 => some (.bool true)
  | 6 => some (.bool true)
  | _ => none

def ch27D : List (Nat × Nat) := [(0, 199), (1, 200), (2, 201), (3, 202), (4, 203), (5, 17)]
def ch27V (n a k : Nat) : Nat → Option Value
  | 0 => some (.int .u8 (a : Int))
  | 1 => some (.int .u8 ((a : Int) / 4))
  | 2 => some (.int .i64 ((a : Int) / 4))
  | 3 => some (.int .i64 (n : Int))
  | 4 => some (.int .i64 (k : Int))
  | 5 => some (.int .i64 (k : Int))
  | _ => none

def ch28D : List (Nat × Nat) := [(0, 204), (1, 205), (2, 206), (3, 207), (4, 208), (5, 209), (6, 210), (7, 211), (8, 212), (9, 213), (10, 214), (11, 215), (13, 15)]
def ch28V (X9 g n k k9 : Nat) (u v : Value) : Nat → Option Value
  | 0 => some (.pointer (some ⟨X9, 6, none⟩))
  | 1 => some (.slice (some ⟨g, 0, none⟩) n k9)
  | 2 => some (.int .i64 (k : Int))
  | 3 => some (.pointer (some ⟨X9, 6, none⟩))
  | 4 => some (.slice (some ⟨g, 0, none⟩) n k9)
  | 5 => some (.int .i64 (k : Int))
  | 6 => some (.pointer (some ⟨g, k * 21, none⟩))
  | 7 => some (.pointer (some ⟨g, k * 21 + 5, none⟩))
  | 8 => some (u)
  | 9 => some (v)
  | 10 => some (.pointer (some ⟨g, k * 21, none⟩))
  | 11 => some (.pointer (some ⟨g, k * 21 + 5, none⟩))
  | 13 => some (.bool true)
  | _ => none

def ch29D : List (Nat × Nat) := [(0, 216), (1, 217), (2, 218), (3, 18)]
def ch29V (X9 n o9 : Nat) (A : Option Addr) : Nat → Option Value
  | 0 => some (.pointer (some ⟨X9, 9, none⟩))
  | 1 => some (.slice A n o9)
  | 2 => some (.int .i64 (n : Int))
  | 3 => some (.int .i64 (n : Int))
  | _ => none

def ch30aD : List (Nat × Nat) := [(0, 219), (1, 220), (2, 221), (3, 222), (4, 223), (5, 224), (6, 225)]
def ch30aV (n a : Nat) : Nat → Option Value
  | 0 => some (.int .i64 (n : Int))
  | 1 => some (.bool false)
  | 2 => some (.bool false)
  | 3 => some (undef)
  | 4 => some (undef)
  | 5 => some (undef)
  | 6 => some (.bool false)
  | _ => none

def ch30bD : List (Nat × Nat) := [(0, 219), (1, 220), (2, 221), (3, 222), (4, 223), (5, 224), (6, 225)]
def ch30bV (n a : Nat) : Nat → Option Value
  | 0 => some (.int .i64 (n : Int))
  | 1 => some (.bool true)
  | 2 => some (.bool true)
  | 3 => some (.int .u8 (a : Int))
  | 4 => some (.int .u8 ((a : Int) % 4))
  | 5 => some (.bool false)
  | 6 => some (.bool false)
  | _ => none

def ch30cD : List (Nat × Nat) := [(0, 219), (1, 220), (2, 221), (3, 222), (4, 223), (5, 224), (6, 225)]
def ch30cV (n a : Nat) : Nat → Option Value
  | 0 => some (.int .i64 (n : Int))
  | 1 => some (.bool true)
  | 2 => some (.bool true)
  | 3 => some (.int .u8 (a : Int))
  | 4 => some (.int .u8 ((a : Int) % 4))
  | 5 => some (.bool true)
  | 6 => some (.bool true)
  | _ => none

def ch31D : List (Nat × Nat) := [(0, 226), (1, 227), (2, 228), (3, 229), (4, 230), (5, 19)]
def ch31V (n a k : Nat) : Nat → Option Value
  | 0 => some (.int .u8 (a : Int))
  | 1 => some (.int .u8 ((a : Int) / 4))
  | 2 => some (.int .i64 ((a : Int) / 4))
  | 3 => some (.int .i64 (n : Int))
  | 4 => some (.int .i64 (k : Int))
  | 5 => some (.int .i64 (k : Int))
  | _ => none

def ch32D : List (Nat × Nat) := [(0, 231), (1, 232), (2, 233), (3, 234), (4, 235), (5, 236), (6, 237), (7, 238), (8, 239), (9, 240), (10, 241), (11, 242), (13, 15)]
def ch32V (X9 g n k o9 : Nat) (u v : Value) : Nat → Option Value
  | 0 => some (.pointer (some ⟨X9, 9, none⟩))
  | 1 => some (.slice (some ⟨g, 0, none⟩) n o9)
  | 2 => some (.int .i64 (k : Int))
  | 3 => some (.pointer (some ⟨X9, 9, none⟩))
  | 4 => some (.slice (some ⟨g, 0, none⟩) n o9)
  | 5 => some (.int .i64 (k : Int))
  | 6 => some (.pointer (some ⟨g, k * 9, none⟩))
  | 7 => some (.pointer (some ⟨g, k * 9 + 7, none⟩))
  | 8 => some (u)
  | 9 => some (v)
  | 10 => some (.pointer (some ⟨g, k * 9, none⟩))
  | 11 => some (.pointer (some ⟨g, k * 9 + 7, none⟩))
  | 13 => some (.bool true)
  | _ => none

def ch33D : List (Nat × Nat) := [(0, 243), (1, 244), (2, 245), (3, 20)]
def ch33V (X9 n m9 : Nat) (A : Option Addr) : Nat → Option Value
  | 0 => some (.pointer (some ⟨X9, 7, none⟩))
  | 1 => some (.slice A n m9)
  | 2 => some (.int .i64 (n : Int))
  | 3 => some (.int .i64 (n : Int))
  | _ => none

def ch34aD : List (Nat × Nat) := [(0, 246), (1, 247), (2, 248), (3, 249), (4, 250), (5, 251), (6, 252)]
def ch34aV (n a : Nat) : Nat → Option Value
  | 0 => some (.int .i64 (n : Int))
  | 1 => some (.bool false)
  | 2 => some (.bool false)
  | 3 => some (undef)
  | 4 => some (undef)
  | 5 => some (undef)
  | 6 => some (.bool false)
  | _ => none

def ch34bD : List (Nat × Nat) := [(0, 246), (1, 247), (2, 248), (3, 249), (4, 250), (5, 251), (6, 252)]
def ch34bV (n a : Nat) : Nat → Option Value
  | 0 => some (.int .i64 (n : Int))
  | 1 => some (.bool true)
  | 2 => some (.bool true)
  | 3 => some (.int .u8 (a : Int))
  | 4 => some (.int .u8 ((a : Int) % 4))
  | 5 => some (.bool false)
  | 6 => some (.bool false)
  | _ => none

def ch34cD : List (Nat × Nat) := [(0, 246), (1, 247), (2, 248), (3, 249), (4, 250), (5, 251), (6, 252)]
def ch34cV (n a : Nat) : Nat → Option Value
  | 0 => some (.int .i64 (n : Int))
  | 1 => some (.bool true)
  | 2 => some (.bool true)
  | 3 => some (.int .u8 (a : Int))
  | 4 => some (.int .u8 ((a : Int) % 4))
  | 5 => some (.bool true)
  | 6 => some (.bool true)
  | _ => none

def ch35D : List (Nat × Nat) := [(0, 253), (1, 254), (2, 255), (3, 256), (4, 257), (5, 21)]
def ch35V (n a k : Nat) : Nat → Option Value
  | 0 => some (.int .u8 (a : Int))
  | 1 => some (.int .u8 ((a : Int) / 4))
  | 2 => some (.int .i64 ((a : Int) / 4))
  | 3 => some (.int .i64 (n : Int))
  | 4 => some (.int .i64 (k : Int))
  | 5 => some (.int .i64 (k : Int))
  | _ => none

def ch36D : List (Nat × Nat) := [(0, 258), (1, 259), (2, 260), (3, 261), (4, 262), (5, 263), (6, 264), (7, 265), (8, 266), (9, 267), (10, 268), (11, 269), (13, 15)]
def ch36V (X9 g n k m9 : Nat) (u v : Value) : Nat → Option Value
  | 0 => some (.pointer (some ⟨X9, 7, none⟩))
  | 1 => some (.slice (some ⟨g, 0, none⟩) n m9)
  | 2 => some (.int .i64 (k : Int))
  | 3 => some (.pointer (some ⟨X9, 7, none⟩))
  | 4 => some (.slice (some ⟨g, 0, none⟩) n m9)
  | 5 => some (.int .i64 (k : Int))
  | 6 => some (.pointer (some ⟨g, k * 3, none⟩))
  | 7 => some (.pointer (some ⟨g, k * 3, none⟩))
  | 8 => some (u)
  | 9 => some (v)
  | 10 => some (.pointer (some ⟨g, k * 3, none⟩))
  | 11 => some (.pointer (some ⟨g, k * 3, none⟩))
  | 13 => some (.bool true)
  | _ => none

def ch37D : List (Nat × Nat) := [(0, 270), (1, 271), (2, 272), (3, 22)]
def ch37V (X9 n n9 : Nat) (A : Option Addr) : Nat → Option Value
  | 0 => some (.pointer (some ⟨X9, 8, none⟩))
  | 1 => some (.slice A n n9)
  | 2 => some (.int .i64 (n : Int))
  | 3 => some (.int .i64 (n : Int))
  | _ => none

def ch38aD : List (Nat × Nat) := [(0, 273), (1, 274), (2, 275), (3, 276), (4, 277), (5, 278), (6, 279)]
def ch38aV (n a : Nat) : Nat → Option Value
  | 0 => some (.int .i64 (n : Int))
  | 1 => some (.bool false)
  | 2 => some (.bool false)
  | 3 => some (undef)
  | 4 => some (undef)
  | 5 => some (undef)
  | 6 => some (.bool false)
  | _ => none

def ch38bD : List (Nat × Nat) := [(0, 273), (1, 274), (2, 275), (3, 276), (4, 277), (5, 278), (6, 279)]
def ch38bV (n a : Nat) : Nat → Option Value
  | 0 => some (.int .i64 (n : Int))
  | 1 => some (.bool true)
  | 2 => some (.bool true)
  | 3 => some (.int .u8 (a : Int))
  | 4 => some (.int .u8 ((a : Int) % 4))
  | 5 => some (.bool false)
  | 6 => some (.bool false)
  | _ => none

def ch38cD : List (Nat × Nat) := [(0, 273), (1, 274), (2, 275), (3, 276), (4, 277), (5, 278), (6, 279)]
def ch38cV (n a : Nat) : Nat → Option Value
  | 0 => some (.int .i64 (n : Int))
  | 1 => some (.bool true)
  | 2 => some (.bool true)
  | 3 => some (.int .u8 (a : Int))
  | 4 => some (.int .u8 ((a : Int) % 4))
  | 5 => some (.bool true)
  | 6 => some (.bool true)
  | _ => none

def ch39D : List (Nat × Nat) := [(0, 280), (1, 281), (2, 282), (3, 283), (4, 284), (5, 23)]
def ch39V (n a k : Nat) : Nat → Option Value
  | 0 => some (.int .u8 (a : Int))
  | 1 => some (.int .u8 ((a : Int) / 4))
  | 2 => some (.int .i64 ((a : Int) / 4))
  | 3 => some (.int .i64 (n : Int))
  | 4 => some (.int .i64 (k : Int))
  | 5 => some (.int .i64 (k : Int))
  | _ => none

def ch40D : List (Nat × Nat) := [(0, 285), (1, 286), (2, 287), (3, 288), (4, 289), (5, 290), (6, 291), (7, 292), (8, 293), (9, 294), (10, 295), (11, 296), (13, 15)]
def ch40V (X9 g n k n9 : Nat) (u v : Value) : Nat → Option Value
  | 0 => some (.pointer (some ⟨X9, 8, none⟩))
  | 1 => some (.slice (some ⟨g, 0, none⟩) n n9)
  | 2 => some (.int .i64 (k : Int))
  | 3 => some (.pointer (some ⟨X9, 8, none⟩))
  | 4 => some (.slice (some ⟨g, 0, none⟩) n n9)
  | 5 => some (.int .i64 (k : Int))
  | 6 => some (.pointer (some ⟨g, k * 8, none⟩))
  | 7 => some (.pointer (some ⟨g, k * 8 + 7, none⟩))
  | 8 => some (u)
  | 9 => some (v)
  | 10 => some (.pointer (some ⟨g, k * 8, none⟩))
  | 11 => some (.pointer (some ⟨g, k * 8 + 7, none⟩))
  | 13 => some (.bool true)
  | _ => none

def ms41D : List (Nat × Nat) := [(0, 297), (1, 298), (2, 299), (3, 300), (4, 301), (5, 302), (6, 303), (7, 304), (8, 305), (9, 306), (10, 307), (11, 308), (12, 6)]
def ms41V (xc s7 s9 : List Value) (ch : Bool) : Nat → Option Value
  | 0 => some (.agg s7.toArray)
  | 1 => some (.agg s9.toArray)
  | 2 => some (.bool (!ch))
  | 3 => some (.bool ch)
  | 4 => some (.bool (!ch))
  | 5 => some (.bool true)
  | 6 => some (.bool true)
  | 7 => some (.agg s7.toArray)
  | 8 => some (.agg xc.toArray)
  | 10 => some (.bool true)
  | 11 => some (.bool true)
  | 12 => some (.bool true)
  | _ => none
def ms41E (H : Nat) (x : Inp) (i : Nat) (w : World) (v : Value) : Prop := i = 9 → ∃ P V S F, v = .agg (recC (made x) P V S F).toArray ∧ RecOwn H w (made x) P V S F
theorem ms41E_kept (H : Nat) (x : Inp) (i : Nat) (w w' : World) (v : Value) (hk : Kept noB w w') (h : ms41E H x i w v) : ms41E H x i w' v := fun e => by
  obtain ⟨P, V, S, F, e1, own⟩ := h e
  exact ⟨P, V, S, F, e1, own.kept hk⟩
set_option maxRecDepth 100000 in
set_option maxHeartbeats 20000000 in
theorem recordSame_walk (x y : Inp) (at' : Int) (P0 V0 S0 F0 P1 V1 S1 F1 : Value) (w : World) (hok : x.ok) (hok2 : y.ok) (h : InpAt w x P0 V0 S0 F0) (h2 : InpAt w y P1 V1 S1 F1) (ha0 : 0 ≤ at') (ha1 : at' < 256) :
    Calls Try.prog 8 #[.agg (inpC x P0 V0 S0 F0).toArray, .agg (inpC y P1 V1 S1 F1).toArray, .int .u8 at'] w fun e w' => e = .returned (.bool true) ∧ Kept noB w w' := by
  have hb1 := (Blk.new w 53 (inpC x P0 V0 S0 F0)).alloc (.cells (inpC y P1 V1 S1 F1).toArray 53)
  have hb2 := Blk.new (w.alloc (.cells (inpC x P0 V0 S0 F0).toArray 53)) 53 (inpC y P1 V1 S1 F1)
  rw [show (w.alloc (.cells (inpC x P0 V0 S0 F0).toArray 53)).heap.size = w.heap.size + 1 by simp] at hb2
  have hkw : Kept noB w ((w.alloc (.cells (inpC x P0 V0 S0 F0).toArray 53)).alloc (.cells (inpC y P1 V1 S1 F1).toArray 53)) := ((Kept.refl _ _).alloc _).alloc _
  have hlen := inpC_len hok P0 V0 S0 F0
  have hlen2 := inpC_len hok2 P1 V1 S1 F1
  have q2 := fun W (hk : Kept noB w W) => made_calls x P0 V0 S0 F0 W hok (h.kept hk)
  have q3 := fun W (hk : Kept noB w W) => made_calls y P1 V1 S1 F1 W hok2 (h2.kept hk)
  have HOK := Lib.hid hok
  have HOK2 := Lib.hid hok2
  clear h h2 hok hok2
  generalize inpC x P0 V0 S0 F0 = xc at *
  generalize inpC y P1 V1 S1 F1 = yc at *
  have HSX := Lib.hid (show (Try.prog.info? 53).map (·.size) = some xc.length by rw [hlen]; exact sizeI)
  have HSY := Lib.hid (show (Try.prog.info? 53).map (·.size) = some yc.length by rw [hlen2]; exact sizeI)
  have QX := Lib.hid q2
  have QY := Lib.hid q3
  clear hlen hlen2 q2 q3
  go_enter Try.func8, Try.ntmps8
  go_upto_region 1 with (fail)
  change Code.wp _ _ _ _ ((w.alloc (.cells xc.toArray 53)).alloc (.cells yc.toArray 53))
  generalize (w.alloc (.cells xc.toArray 53)).alloc (.cells yc.toArray 53) = W0 at *
  obtain ⟨B, hB⟩ : ∃ B, w.heap.size = B := ⟨_, rfl⟩
  rw [hB] at hb1 hb2 ⊢
  have HB := Lib.hid hB
  have HB1 := Lib.hid hb1
  have HB2 := Lib.hid hb2
  have HKW := Lib.hid hkw
  clear hB hb1 hb2 hkw
  go_wp2_with fail
  refine (speaks14_calls _).mono ?_
  rintro e w1 ⟨rfl, hk1⟩
  have hb1 := HB1.out.kept hk1 (fun e => e)
  have hb2 := HB2.out.kept hk1 (fun e => e)
  have HKW1 := Lib.hid (HKW.out.no hk1)
  clear HB1 HB2 HKW hk1
  have k1 := hb1.range (xs := xc) (o := 0) (fun j v hv => by rwa [Nat.zero_add])
  have k2 := hb2.range (xs := yc) (o := 0) (fun j v hv => by rwa [Nat.zero_add])
  have K1 := Lib.hid k1
  have K2 := Lib.hid k2
  have HB1 := Lib.hid hb1
  clear k1 k2 hb1 hb2
  go_wp2_with fail
  have hok3 := ms3ok xc yc w1.heap.size x y
  refine wp_region_invG (by kernel_rfl) (by kernel_rfl) (fun f a' wz => TW _ ms3D (ms3V xc yc) w1 63 zeroR (madeG w1.heap.size x) (madeG w1.heap.size y) 4 5 6 7 7 8 (msE w1.heap.size x y) f a' wz ∧ (f 4 = false → f 6 = false) ∧ (f 5 = false → f 7 = false)) ⟨TW.start, fun _ => rfl, fun _ => rfl⟩ ?_ ?_
  · intro f a' wz hIA i o ho hfi hall
    obtain ⟨hI, hA, hB2⟩ := hIA
    have hi : i < 8 := (Array.getElem?_eq_some_iff.1 ho).1
    rcases (by omega : i = 0 ∨ i = 1 ∨ i = 2 ∨ i = 3 ∨ i = 4 ∨ i = 5 ∨ i = 6 ∨ i = 7) with rfl | rfl | rfl | rfl | rfl | rfl | rfl | rfl
    all_goals
      simp only [List.getElem?_toArray, List.getElem?_cons_zero, List.getElem?_cons_succ, Option.some.injEq] at ho
      subst ho
    · refine .inl ⟨wanted_free rfl, ?_⟩
      refine Oper.wp_mono (K := TW _ ms3D (ms3V xc yc) w1 63 zeroR (madeG w1.heap.size x) (madeG w1.heap.size y) 4 5 6 7 7 8 (msE w1.heap.size x y) (fun j => decide (j = 0) || f j)) (fun _ _ h => ⟨h, fun h10 => ?_, fun h11 => ?_⟩) ?_
      · simpa using hA (by simpa using h10)
      · simpa using hB2 (by simpa using h11)
      · have e3 : a'.eval (.tmp 3) = .pointer (some ⟨B, 0, none⟩) := hI.old (by decide)
        exact wp_load_mid _ _ rfl B 0 e3 xc _ (rangeAt_kept K1.out hI.kept (fun e => e)) Try.underlying53 rfl HSX.out (TW.valu hok3 hI (d := 26) (by kernel_rfl) (by decide) rfl (by decide) (by decide) (by decide) (by decide) (Kept.refl _ _))
    · refine .inl ⟨wanted_free rfl, ?_⟩
      refine Oper.wp_mono (K := TW _ ms3D (ms3V xc yc) w1 63 zeroR (madeG w1.heap.size x) (madeG w1.heap.size y) 4 5 6 7 7 8 (msE w1.heap.size x y) (fun j => decide (j = 1) || f j)) (fun _ _ h => ⟨h, fun h10 => ?_, fun h11 => ?_⟩) ?_
      · simpa using hA (by simpa using h10)
      · simpa using hB2 (by simpa using h11)
      · have e26 : a'.eval (.tmp 26) = .agg xc.toArray := TW.get hI (i := 0) (by decide) rfl (hall ⟨0, .data⟩ (by simp) rfl)
        refine wp_go Try.func29 rfl rfl (args := #[.agg xc.toArray]) (by simp only [List.map_toArray, List.map_cons, List.map_nil, e26]) ((QX.out wz (HKW1.out.no hI.kept)).mono ?_)
        rintro e w' ⟨P, V, S, F, rfl, own, hk⟩
        exact ⟨_, rfl, TW.exv hok3 hI (d := 27) (by kernel_rfl) (by decide) rfl ⟨fun _ => ⟨_, rfl, P, V, S, F, rfl, own.base hI.kept.size⟩, fun e => absurd e (by decide)⟩ (by decide) (by decide) (by decide) (by decide) hk⟩
    · refine .inl ⟨wanted_free rfl, ?_⟩
      refine Oper.wp_mono (K := TW _ ms3D (ms3V xc yc) w1 63 zeroR (madeG w1.heap.size x) (madeG w1.heap.size y) 4 5 6 7 7 8 (msE w1.heap.size x y) (fun j => decide (j = 2) || f j)) (fun _ _ h => ⟨h, fun h10 => ?_, fun h11 => ?_⟩) ?_
      · simpa using hA (by simpa using h10)
      · simpa using hB2 (by simpa using h11)
      · have e4 : a'.eval (.tmp 4) = .pointer (some ⟨B + 1, 0, none⟩) := hI.old (by decide)
        exact wp_load_mid _ _ rfl (B + 1) 0 e4 yc _ (rangeAt_kept K2.out hI.kept (fun e => e)) Try.underlying53 rfl HSY.out (TW.valu hok3 hI (d := 28) (by kernel_rfl) (by decide) rfl (by decide) (by decide) (by decide) (by decide) (Kept.refl _ _))
    · refine .inl ⟨wanted_free rfl, ?_⟩
      refine Oper.wp_mono (K := TW _ ms3D (ms3V xc yc) w1 63 zeroR (madeG w1.heap.size x) (madeG w1.heap.size y) 4 5 6 7 7 8 (msE w1.heap.size x y) (fun j => decide (j = 3) || f j)) (fun _ _ h => ⟨h, fun h10 => ?_, fun h11 => ?_⟩) ?_
      · simpa using hA (by simpa using h10)
      · simpa using hB2 (by simpa using h11)
      · have e28 : a'.eval (.tmp 28) = .agg yc.toArray := TW.get hI (i := 2) (by decide) rfl (hall ⟨2, .data⟩ (by simp) rfl)
        refine wp_go Try.func29 rfl rfl (args := #[.agg yc.toArray]) (by simp only [List.map_toArray, List.map_cons, List.map_nil, e28]) ((QY.out wz (HKW1.out.no hI.kept)).mono ?_)
        rintro e w' ⟨P, V, S, F, rfl, own, hk⟩
        exact ⟨_, rfl, TW.exv hok3 hI (d := 29) (by kernel_rfl) (by decide) rfl ⟨fun e => absurd e (by decide), fun _ => ⟨_, rfl, P, V, S, F, rfl, own.base hI.kept.size⟩⟩ (by decide) (by decide) (by decide) (by decide) hk⟩
    · refine .inl ⟨wanted_free rfl, ?_⟩
      refine Oper.wp_mono (K := TW _ ms3D (ms3V xc yc) w1 63 zeroR (madeG w1.heap.size x) (madeG w1.heap.size y) 4 5 6 7 7 8 (msE w1.heap.size x y) (fun j => decide (j = 4) || f j)) (fun _ _ h => ⟨h, fun h10 => ?_, fun h11 => ?_⟩) ?_
      · simp at h10
      · simpa using hB2 (by simpa using h11)
      · refine wp_value (w' := wz.alloc (.cells zeroR.toArray 63)) ?_ (TW.allocA hok3 hI (by kernel_rfl) (hA hfi))
        unfold execOp
        exact run_val (run_allocR wz)
    · refine .inl ⟨wanted_free rfl, ?_⟩
      refine Oper.wp_mono (K := TW _ ms3D (ms3V xc yc) w1 63 zeroR (madeG w1.heap.size x) (madeG w1.heap.size y) 4 5 6 7 7 8 (msE w1.heap.size x y) (fun j => decide (j = 5) || f j)) (fun _ _ h => ⟨h, fun h10 => ?_, fun h11 => ?_⟩) ?_
      · simpa using hA (by simpa using h10)
      · simp at h11
      · refine wp_value (w' := wz.alloc (.cells zeroR.toArray 63)) ?_ (TW.allocB hok3 hI (by kernel_rfl) (hB2 hfi))
        unfold execOp
        exact run_val (run_allocR wz)
    · refine .inl ⟨wanted_free rfl, ?_⟩
      refine Oper.wp_mono (K := TW _ ms3D (ms3V xc yc) w1 63 zeroR (madeG w1.heap.size x) (madeG w1.heap.size y) 4 5 6 7 7 8 (msE w1.heap.size x y) (fun j => decide (j = 6) || f j)) (fun _ _ h => ⟨h, fun h10 => ?_, fun h11 => ?_⟩) ?_
      · have h9 : f 4 = true := hall ⟨4, .data⟩ (by simp) rfl
        simp [h9] at h10
      · simpa using hB2 (by simpa using h11)
      · have e27 := (TW.exs hI (i := 1) (d := 27) (by decide) rfl (by decide) (by decide) (hall ⟨1, .data⟩ (by simp) rfl)).1 rfl
        obtain ⟨cs, e27, hG⟩ := e27
        obtain ⟨gg, e7, hbb, hst⟩ := TW.storeA hok3 hI (by kernel_rfl) (hall ⟨4, .data⟩ (by simp) rfl) hfi hG
        have hl := madeG_len HOK.out hG
        exact wp_store_row 63 (.tmp 7) (.tmp 27) rfl gg cs.toArray e7 e27 63 zeroR.toArray hbb (len_size hl) (len_hold hl) (madeG_one HOK.out hG) (hst undef)
    · refine .inl ⟨wanted_free rfl, ?_⟩
      refine Oper.wp_mono (K := TW _ ms3D (ms3V xc yc) w1 63 zeroR (madeG w1.heap.size x) (madeG w1.heap.size y) 4 5 6 7 7 8 (msE w1.heap.size x y) (fun j => decide (j = 7) || f j)) (fun _ _ h => ⟨h, fun h10 => ?_, fun h11 => ?_⟩) ?_
      · simpa using hA (by simpa using h10)
      · have h9 : f 5 = true := hall ⟨5, .data⟩ (by simp) rfl
        simp [h9] at h11
      · have e29 := (TW.exs hI (i := 3) (d := 29) (by decide) rfl (by decide) (by decide) (hall ⟨3, .data⟩ (by simp) rfl)).2 rfl
        obtain ⟨cs, e29, hG⟩ := e29
        obtain ⟨gg, e8, hbb, hst⟩ := TW.storeB hok3 hI (by kernel_rfl) (hall ⟨5, .data⟩ (by simp) rfl) hfi hG
        have hl := madeG_len HOK2.out hG
        exact wp_store_row 63 (.tmp 8) (.tmp 29) rfl gg cs.toArray e8 e29 63 zeroR.toArray hbb (len_size hl) (len_hold hl) (madeG_one HOK2.out hG) (hst undef)
  · intro f a' wz hf hIA
    obtain ⟨X7, X8, cs7, cs8, e7, e8, hne, hg7, hg8, b7, b8, hG1, hG2, kz⟩ := TW.finish hIA.1 hok3 (hf 4 (by decide)) (hf 5 (by decide)) (hf 6 (by decide)) (hf 7 (by decide))
    have ho := hIA.1.slots.out
    clear hIA hf
    simp only [ms3D, List.foldl_cons, List.foldl_nil, Act.put] at ho
    rw [e7, e8] at ho
    generalize a'.tmps.getD 26 undef = y26 at *
    generalize a'.tmps.getD 27 undef = y27 at *
    generalize a'.tmps.getD 28 undef = y28 at *
    generalize a'.tmps.getD 29 undef = y29 at *
    clear e7 e8
    simp only [List.setIfInBounds_toArray, List.set_cons_zero, List.set_cons_succ] at ho
    subst ho
    obtain ⟨P, V, S, F, st7⟩ := madeG_st HOK.out hG1 b7
    obtain ⟨P2, V2, S2, F2, st8⟩ := madeG_st HOK2.out hG2 b8
    have HKZ := Lib.hid (HKW1.out.no kz)
    have HBZ := Lib.hid (HB1.out.kept kz (fun e => e))
    have STZ8 := Lib.hid st8
    have q4 := clone_calls (made x) P V S F wz st7.ok st7.at'
    have hx7 := st7.blk
    have hs7 := st_size st7.ok P V S F
    have STZ7 := Lib.hid st7
    clear hok3 hG1 hG2 kz b7 b8 st7 st8 HB1 HKW1 K1 K2 hne hg7 hg8
    go_wp2_with (refine wpList_load_row rfl 63 (.tmp 7) rfl X7 rfl _ (recC (made x) P V S F).toArray _ _ (by exact hx7) Try.underlying63 rfl hs7 ?_)
    refine q4.mono ?_
    rintro e w4 ⟨P9, V9, S9, F9, rfl, own9, hk4⟩
    have mok := made_ok HOK.out
    have h1c : (recC (made x) P9 V9 S9 F9).toArray.all (·.oneCell') = true := all_oneCell_toArray (recC_one mok own9)
    have hs9 := st_size mok P9 V9 S9 F9
    have hold := st_hold mok P9 V9 S9 F9
    have hz := Blk.new w4 63 zeroR
    obtain ⟨st9, k5⟩ := st_laid mok own9
    have KW := Lib.hid (hk4.no k5)
    have OWN9 := Lib.hid (own9.kept k5)
    have ST9 := Lib.hid st9
    have MOK := Lib.hid mok
    have MOK2 := Lib.hid (made_ok HOK2.out)
    have HX9 := Lib.hid hk4.size
    clear q4 hx7 hs7 st9 k5 own9 hk4 mok
    go_upto_region 5 with (refine wpList_store_row rfl 63 (.tmp 9) (.tmp 31) rfl w4.heap.size (recC (made x) P9 V9 S9 F9).toArray rfl rfl _ zeroR.toArray (by exact hz) hs9 hold h1c ?_)
    change Code.wp _ _ _ _ ((w4.alloc (.cells zeroR.toArray 63)).setRow w4.heap.size (recC (made x) P9 V9 S9 F9).toArray)
    clear hz h1c hold hs9
    generalize (w4.alloc (.cells zeroR.toArray 63)).setRow w4.heap.size (recC (made x) P9 V9 S9 F9).toArray = W at *
    generalize w4.heap.size = X9 at *
    simp only [Act.put]
    have st7 := STZ7.out.kept KW.out
    have st8 := STZ8.out.kept KW.out
    have CF7 := Lib.hid (recC_cfg st7.blk)
    have CF8 := Lib.hid (recC_cfg st8.blk)
    have CN7 := Lib.hid (recC_cnt st7.ok st7.blk)
    have CN8 := Lib.hid (recC_cnt st8.ok st8.blk)
    have SC7 : Hid ((Try.prog.info? 56).map (·.size) = some (made x).cfg.length) := Lib.hid (by rw [st7.ok.lc]; exact sizeC)
    have SC8 : Hid ((Try.prog.info? 56).map (·.size) = some (made y).cfg.length) := Lib.hid (by rw [st8.ok.lc]; exact sizeC)
    have SN7 : Hid ((Try.prog.info? 61).map (·.size) = some (made x).cnt.length) := Lib.hid (by rw [st7.ok.ln]; exact sizeN)
    have SN8 : Hid ((Try.prog.info? 61).map (·.size) = some (made y).cnt.length) := Lib.hid (by rw [st8.ok.ln]; exact sizeN)
    have FC7 := Lib.hid st7.ok.cfg
    have FC8 := Lib.hid st8.ok.cfg
    have FN7 := Lib.hid st7.ok.cnt
    have FN8 := Lib.hid st8.ok.cnt
    obtain ⟨⟨A1, c1, hP, r1⟩, ⟨A2, c2, hV, r2⟩, ⟨A3, c3, hS, r3⟩, ⟨A4, c4, hF, r4⟩⟩ := st7.at'
    obtain ⟨⟨A5, c5, hP2, r5⟩, ⟨A6, c6, hV2, r6⟩, ⟨A7, c7, hS2, r7⟩, ⟨A8, c8, hF2, r8⟩⟩ := st8.at'
    have u6 : W.cell? ⟨X7, 6, none⟩ = some (.slice A1 (made x).ports.length c1) := by rw [← hP]; exact (st7.blk.cell 6).trans (recC_6 st7.ok _ _ _ _)
    have u7 : W.cell? ⟨X7, 7, none⟩ = some (.slice A2 (made x).vlans.length c2) := by rw [← hV]; exact (st7.blk.cell 7).trans (recC_7 st7.ok _ _ _ _)
    have u8 : W.cell? ⟨X7, 8, none⟩ = some (.slice A3 (made x).stat.length c3) := by rw [← hS]; exact (st7.blk.cell 8).trans (recC_8 st7.ok _ _ _ _)
    have u9 : W.cell? ⟨X7, 9, none⟩ = some (.slice A4 (made x).fdb.length c4) := by rw [← hF]; exact (st7.blk.cell 9).trans (recC_9 st7.ok _ _ _ _)
    have cb7 : W.cell? ⟨X7, 24, none⟩ = some (.int .i64 (made x).beat) := (st7.blk.cell 24).trans (recC_24 st7.ok _ _ _ _)
    have v6 : W.cell? ⟨X8, 6, none⟩ = some (.slice A5 (made y).ports.length c5) := by rw [← hP2]; exact (st8.blk.cell 6).trans (recC_6 st8.ok _ _ _ _)
    have v7 : W.cell? ⟨X8, 7, none⟩ = some (.slice A6 (made y).vlans.length c6) := by rw [← hV2]; exact (st8.blk.cell 7).trans (recC_7 st8.ok _ _ _ _)
    have v8 : W.cell? ⟨X8, 8, none⟩ = some (.slice A7 (made y).stat.length c7) := by rw [← hS2]; exact (st8.blk.cell 8).trans (recC_8 st8.ok _ _ _ _)
    have v9 : W.cell? ⟨X8, 9, none⟩ = some (.slice A8 (made y).fdb.length c8) := by rw [← hF2]; exact (st8.blk.cell 9).trans (recC_9 st8.ok _ _ _ _)
    have cb8 : W.cell? ⟨X8, 24, none⟩ = some (.int .i64 (made y).beat) := (st8.blk.cell 24).trans (recC_24 st8.ok _ _ _ _)
    have R1 := Lib.hid r1
    have R2 := Lib.hid r2
    have R3 := Lib.hid r3
    have R4 := Lib.hid r4
    have R5 := Lib.hid r5
    have R6 := Lib.hid r6
    have R7 := Lib.hid r7
    have R8 := Lib.hid r8
    have B7 := Lib.hid st7.blk
    have B8 := Lib.hid st8.blk
    clear st7 st8 r1 r2 r3 r4 r5 r6 r7 r8 hP hV hS hF hP2 hV2 hS2 hF2
    go_cut [10] (fun s wx => s = .bool (res0 (made x) (made y)) ∧ wx = W)
    case first =>

      cases h5 : eqCells (made x).cfg (made y).cfg with
      | false =>
        have hr : res0 (made x) (made y) = false := by simp [res0, h5]
        have HR := Lib.hid hr
        have H5 := Lib.hid h5
        clear h5
        clear hr 
        have H6 : Hid (eqCells (made x).cnt (made y).cnt = eqCells (made x).cnt (made y).cnt) := Lib.hid rfl
        as_aux_lemma =>
          go_wp2_with (first | (refine wpList_load_mid rfl 56 (.tmp 32) rfl X7 0 rfl (made x).cfg _ (by exact CF7.out) Try.underlying56 rfl SC7.out ?_) | (refine wpList_load_mid rfl 56 (.tmp 34) rfl X8 0 rfl (made y).cfg _ (by exact CF8.out) Try.underlying56 rfl SC8.out ?_) | (refine wpList_eql_cells rfl 56 (.tmp 33) (.tmp 35) _ rfl (made x).cfg (made y).cfg rfl rfl leavesC (by decide) aggC guardC FC7.out FC8.out ?_; rw [H5.out]; go_wp2_with fail))
          go_meet
          exact ⟨by rw [HR.out], rfl⟩
      | true =>
        by_cases hbt : (made x).beat = (made y).beat
        · cases h6 : eqCells (made x).cnt (made y).cnt with
          | false =>
            have hr : res0 (made x) (made y) = false := by simp [res0, h5, hbt, h6]
            have HR := Lib.hid hr
            have H5 := Lib.hid h5
            clear h5
            have tb : ((made x).beat == (made y).beat) = true := by simp [hbt]
            have H6 := Lib.hid h6
            clear h6
            clear hr hbt
            as_aux_lemma =>
              go_wp2_with (first | (refine wpList_load_mid rfl 56 (.tmp 32) rfl X7 0 rfl (made x).cfg _ (by exact CF7.out) Try.underlying56 rfl SC7.out ?_) | (refine wpList_load_mid rfl 56 (.tmp 34) rfl X8 0 rfl (made y).cfg _ (by exact CF8.out) Try.underlying56 rfl SC8.out ?_) | (refine wpList_eql_cells rfl 56 (.tmp 33) (.tmp 35) _ rfl (made x).cfg (made y).cfg rfl rfl leavesC (by decide) aggC guardC FC7.out FC8.out ?_; rw [H5.out]; go_wp2_with (first | (refine wpList_load_midG (by exact rfl) 61 (.tmp 45) rfl X7 10 rfl (made x).cnt _ (by exact CN7.out) Try.underlying61 rfl SN7.out ?_) | (refine wpList_load_midG (by exact rfl) 61 (.tmp 47) rfl X8 10 rfl (made y).cnt _ (by exact CN8.out) Try.underlying61 rfl SN8.out ?_) | (refine wpList_eql_cellsG (by exact rfl) 61 (.tmp 46) (.tmp 48) _ rfl (made x).cnt (made y).cnt rfl rfl leavesN (by decide) aggN guardN FN7.out FN8.out ?_; rw [H6.out]; go_wp2_with fail))))
              go_meet
              exact ⟨by rw [HR.out], rfl⟩
          | true =>
            by_cases hl0 : (made x).ports.length = (made y).ports.length
            · by_cases hl1 : (made x).vlans.length = (made y).vlans.length
              · by_cases hl2 : (made x).stat.length = (made y).stat.length
                · by_cases hl3 : (made x).fdb.length = (made y).fdb.length
                  · have hr : res0 (made x) (made y) = true := by simp [res0, h5, hbt, h6, hl0, hl1, hl2, hl3]
                    have HR := Lib.hid hr
                    have H5 := Lib.hid h5
                    clear h5
                    have tb : ((made x).beat == (made y).beat) = true := by simp [hbt]
                    have H6 := Lib.hid h6
                    clear h6
                    have thl0 : (((made x).ports.length : Int) == ((made y).ports.length : Int)) = true := by simp; omega
                    have thl1 : (((made x).vlans.length : Int) == ((made y).vlans.length : Int)) = true := by simp; omega
                    have thl2 : (((made x).stat.length : Int) == ((made y).stat.length : Int)) = true := by simp; omega
                    have thl3 : (((made x).fdb.length : Int) == ((made y).fdb.length : Int)) = true := by simp; omega
                    clear hr hbt hl0 hl1 hl2 hl3
                    as_aux_lemma =>
                      go_wp2_with (first | (refine wpList_load_mid rfl 56 (.tmp 32) rfl X7 0 rfl (made x).cfg _ (by exact CF7.out) Try.underlying56 rfl SC7.out ?_) | (refine wpList_load_mid rfl 56 (.tmp 34) rfl X8 0 rfl (made y).cfg _ (by exact CF8.out) Try.underlying56 rfl SC8.out ?_) | (refine wpList_eql_cells rfl 56 (.tmp 33) (.tmp 35) _ rfl (made x).cfg (made y).cfg rfl rfl leavesC (by decide) aggC guardC FC7.out FC8.out ?_; rw [H5.out]; go_wp2_with (first | (refine wpList_load_midG (by exact rfl) 61 (.tmp 45) rfl X7 10 rfl (made x).cnt _ (by exact CN7.out) Try.underlying61 rfl SN7.out ?_) | (refine wpList_load_midG (by exact rfl) 61 (.tmp 47) rfl X8 10 rfl (made y).cnt _ (by exact CN8.out) Try.underlying61 rfl SN8.out ?_) | (refine wpList_eql_cellsG (by exact rfl) 61 (.tmp 46) (.tmp 48) _ rfl (made x).cnt (made y).cnt rfl rfl leavesN (by decide) aggN guardN FN7.out FN8.out ?_; rw [H6.out]; go_wp2_with fail))))
                      go_meet
                      exact ⟨by rw [HR.out], rfl⟩
                  · have hr : res0 (made x) (made y) = false := by simp [res0, h5, hbt, h6, hl0, hl1, hl2, hl3]
                    have HR := Lib.hid hr
                    have H5 := Lib.hid h5
                    clear h5
                    have tb : ((made x).beat == (made y).beat) = true := by simp [hbt]
                    have H6 := Lib.hid h6
                    clear h6
                    have thl0 : (((made x).ports.length : Int) == ((made y).ports.length : Int)) = true := by simp; omega
                    have thl1 : (((made x).vlans.length : Int) == ((made y).vlans.length : Int)) = true := by simp; omega
                    have thl2 : (((made x).stat.length : Int) == ((made y).stat.length : Int)) = true := by simp; omega
                    have thl3 : (((made x).fdb.length : Int) == ((made y).fdb.length : Int)) = false := by simp; omega
                    clear hr hbt hl0 hl1 hl2 hl3
                    as_aux_lemma =>
                      go_wp2_with (first | (refine wpList_load_mid rfl 56 (.tmp 32) rfl X7 0 rfl (made x).cfg _ (by exact CF7.out) Try.underlying56 rfl SC7.out ?_) | (refine wpList_load_mid rfl 56 (.tmp 34) rfl X8 0 rfl (made y).cfg _ (by exact CF8.out) Try.underlying56 rfl SC8.out ?_) | (refine wpList_eql_cells rfl 56 (.tmp 33) (.tmp 35) _ rfl (made x).cfg (made y).cfg rfl rfl leavesC (by decide) aggC guardC FC7.out FC8.out ?_; rw [H5.out]; go_wp2_with (first | (refine wpList_load_midG (by exact rfl) 61 (.tmp 45) rfl X7 10 rfl (made x).cnt _ (by exact CN7.out) Try.underlying61 rfl SN7.out ?_) | (refine wpList_load_midG (by exact rfl) 61 (.tmp 47) rfl X8 10 rfl (made y).cnt _ (by exact CN8.out) Try.underlying61 rfl SN8.out ?_) | (refine wpList_eql_cellsG (by exact rfl) 61 (.tmp 46) (.tmp 48) _ rfl (made x).cnt (made y).cnt rfl rfl leavesN (by decide) aggN guardN FN7.out FN8.out ?_; rw [H6.out]; go_wp2_with fail))))
                      go_meet
                      exact ⟨by rw [HR.out], rfl⟩
                · have hr : res0 (made x) (made y) = false := by simp [res0, h5, hbt, h6, hl0, hl1, hl2]
                  have HR := Lib.hid hr
                  have H5 := Lib.hid h5
                  clear h5
                  have tb : ((made x).beat == (made y).beat) = true := by simp [hbt]
                  have H6 := Lib.hid h6
                  clear h6
                  have thl0 : (((made x).ports.length : Int) == ((made y).ports.length : Int)) = true := by simp; omega
                  have thl1 : (((made x).vlans.length : Int) == ((made y).vlans.length : Int)) = true := by simp; omega
                  have thl2 : (((made x).stat.length : Int) == ((made y).stat.length : Int)) = false := by simp; omega
                  clear hr hbt hl0 hl1 hl2
                  as_aux_lemma =>
                    go_wp2_with (first | (refine wpList_load_mid rfl 56 (.tmp 32) rfl X7 0 rfl (made x).cfg _ (by exact CF7.out) Try.underlying56 rfl SC7.out ?_) | (refine wpList_load_mid rfl 56 (.tmp 34) rfl X8 0 rfl (made y).cfg _ (by exact CF8.out) Try.underlying56 rfl SC8.out ?_) | (refine wpList_eql_cells rfl 56 (.tmp 33) (.tmp 35) _ rfl (made x).cfg (made y).cfg rfl rfl leavesC (by decide) aggC guardC FC7.out FC8.out ?_; rw [H5.out]; go_wp2_with (first | (refine wpList_load_midG (by exact rfl) 61 (.tmp 45) rfl X7 10 rfl (made x).cnt _ (by exact CN7.out) Try.underlying61 rfl SN7.out ?_) | (refine wpList_load_midG (by exact rfl) 61 (.tmp 47) rfl X8 10 rfl (made y).cnt _ (by exact CN8.out) Try.underlying61 rfl SN8.out ?_) | (refine wpList_eql_cellsG (by exact rfl) 61 (.tmp 46) (.tmp 48) _ rfl (made x).cnt (made y).cnt rfl rfl leavesN (by decide) aggN guardN FN7.out FN8.out ?_; rw [H6.out]; go_wp2_with fail))))
                    go_meet
                    exact ⟨by rw [HR.out], rfl⟩
              · have hr : res0 (made x) (made y) = false := by simp [res0, h5, hbt, h6, hl0, hl1]
                have HR := Lib.hid hr
                have H5 := Lib.hid h5
                clear h5
                have tb : ((made x).beat == (made y).beat) = true := by simp [hbt]
                have H6 := Lib.hid h6
                clear h6
                have thl0 : (((made x).ports.length : Int) == ((made y).ports.length : Int)) = true := by simp; omega
                have thl1 : (((made x).vlans.length : Int) == ((made y).vlans.length : Int)) = false := by simp; omega
                clear hr hbt hl0 hl1
                as_aux_lemma =>
                  go_wp2_with (first | (refine wpList_load_mid rfl 56 (.tmp 32) rfl X7 0 rfl (made x).cfg _ (by exact CF7.out) Try.underlying56 rfl SC7.out ?_) | (refine wpList_load_mid rfl 56 (.tmp 34) rfl X8 0 rfl (made y).cfg _ (by exact CF8.out) Try.underlying56 rfl SC8.out ?_) | (refine wpList_eql_cells rfl 56 (.tmp 33) (.tmp 35) _ rfl (made x).cfg (made y).cfg rfl rfl leavesC (by decide) aggC guardC FC7.out FC8.out ?_; rw [H5.out]; go_wp2_with (first | (refine wpList_load_midG (by exact rfl) 61 (.tmp 45) rfl X7 10 rfl (made x).cnt _ (by exact CN7.out) Try.underlying61 rfl SN7.out ?_) | (refine wpList_load_midG (by exact rfl) 61 (.tmp 47) rfl X8 10 rfl (made y).cnt _ (by exact CN8.out) Try.underlying61 rfl SN8.out ?_) | (refine wpList_eql_cellsG (by exact rfl) 61 (.tmp 46) (.tmp 48) _ rfl (made x).cnt (made y).cnt rfl rfl leavesN (by decide) aggN guardN FN7.out FN8.out ?_; rw [H6.out]; go_wp2_with fail))))
                  go_meet
                  exact ⟨by rw [HR.out], rfl⟩
            · have hr : res0 (made x) (made y) = false := by simp [res0, h5, hbt, h6, hl0]
              have HR := Lib.hid hr
              have H5 := Lib.hid h5
              clear h5
              have tb : ((made x).beat == (made y).beat) = true := by simp [hbt]
              have H6 := Lib.hid h6
              clear h6
              have thl0 : (((made x).ports.length : Int) == ((made y).ports.length : Int)) = false := by simp; omega
              clear hr hbt hl0
              as_aux_lemma =>
                go_wp2_with (first | (refine wpList_load_mid rfl 56 (.tmp 32) rfl X7 0 rfl (made x).cfg _ (by exact CF7.out) Try.underlying56 rfl SC7.out ?_) | (refine wpList_load_mid rfl 56 (.tmp 34) rfl X8 0 rfl (made y).cfg _ (by exact CF8.out) Try.underlying56 rfl SC8.out ?_) | (refine wpList_eql_cells rfl 56 (.tmp 33) (.tmp 35) _ rfl (made x).cfg (made y).cfg rfl rfl leavesC (by decide) aggC guardC FC7.out FC8.out ?_; rw [H5.out]; go_wp2_with (first | (refine wpList_load_midG (by exact rfl) 61 (.tmp 45) rfl X7 10 rfl (made x).cnt _ (by exact CN7.out) Try.underlying61 rfl SN7.out ?_) | (refine wpList_load_midG (by exact rfl) 61 (.tmp 47) rfl X8 10 rfl (made y).cnt _ (by exact CN8.out) Try.underlying61 rfl SN8.out ?_) | (refine wpList_eql_cellsG (by exact rfl) 61 (.tmp 46) (.tmp 48) _ rfl (made x).cnt (made y).cnt rfl rfl leavesN (by decide) aggN guardN FN7.out FN8.out ?_; rw [H6.out]; go_wp2_with fail))))
                go_meet
                exact ⟨by rw [HR.out], rfl⟩
        · have hr : res0 (made x) (made y) = false := by simp [res0, h5, hbt]
          have HR := Lib.hid hr
          have H5 := Lib.hid h5
          clear h5
          have tb : ((made x).beat == (made y).beat) = false := by simp [hbt]
          clear hr hbt
          have H6 : Hid (eqCells (made x).cnt (made y).cnt = eqCells (made x).cnt (made y).cnt) := Lib.hid rfl
          as_aux_lemma =>
            go_wp2_with (first | (refine wpList_load_mid rfl 56 (.tmp 32) rfl X7 0 rfl (made x).cfg _ (by exact CF7.out) Try.underlying56 rfl SC7.out ?_) | (refine wpList_load_mid rfl 56 (.tmp 34) rfl X8 0 rfl (made y).cfg _ (by exact CF8.out) Try.underlying56 rfl SC8.out ?_) | (refine wpList_eql_cells rfl 56 (.tmp 33) (.tmp 35) _ rfl (made x).cfg (made y).cfg rfl rfl leavesC (by decide) aggC guardC FC7.out FC8.out ?_; rw [H5.out]; go_wp2_with fail))
            go_meet
            exact ⟨by rw [HR.out], rfl⟩
    case rest =>
    rename World => wc
    obtain ⟨rfl, hwc⟩ := hcut
    obtain rfl := hwc.symm
    have KWW := Lib.hid (Kept.refl noB W)
    have hkcur := KWW.out
    have HKC := Lib.hid hkcur
    clear hkcur KWW
    go_upto_block 0 with (fail)
    go_cut [10] (fun s wx => s = .bool (res1 (made x) (made y)) ∧ Kept noB W wx)
    case first =>
     as_aux_lemma =>
      go_wp2_with fail
      go_loopw [10, 11] (fun b i wr => ∃ (k : Nat) (c : Bool), k ≤ (made x).ports.length ∧ i = .int .i64 k ∧ b = .bool c ∧ (c = true → res0 (made x) (made y) = true ∧ eqRows ((made x).ports.drop k) ((made y).ports.drop k) = eqRows (made x).ports (made y).ports) ∧ (c = false → res1 (made x) (made y) = false) ∧ Kept noB W wr) (fun _ i _ => (made x).ports.length - (intOf i).toNat)
      case atStart => exact ⟨0, res0 (made x) (made y), Nat.zero_le _, rfl, rfl, fun h => ⟨h, rfl⟩, fun h => by simp [res1, h], HKC.out⟩
      case round =>
        clear HKC
        obtain ⟨k, c, hk, rfl, rfl, ht, hf, hkr⟩ := hrel
        have hnl : (made x).ports.length ≤ 1000 := MOK.out.l1
        have y1 := hkr.cell u6 (fun e => e)
        have y2 := hkr.cell v6 (fun e => e)
        cases c with
        | false =>
          have HF := Lib.hid (hf rfl)
          have HKR := Lib.hid hkr
          clear hf ht hkr
          go_wp2_with fail
          go_meet
          exact ⟨by rw [HF.out], HKR.out⟩
        | true =>
          obtain ⟨hp, hd⟩ := ht rfl
          have hlens := res0_lens (hp)
          have HP := Lib.hid hp
          have HD := Lib.hid hd
          have HL := Lib.hid hlens
          clear hp hd hlens hf ht
          by_cases hlt : k < (made x).ports.length
          · have hki : (k : Int) < ((made x).ports.length : Int) := by omega
            have hki2 : (k : Int) < ((made y).ports.length : Int) := by have := HL.out; omega
            have hnl2 : (made y).ports.length ≤ 1000 := MOK2.out.l1
            obtain ⟨p, hp⟩ : ∃ p, (made x).ports[k]? = some p := ⟨_, List.getElem?_eq_getElem hlt⟩
            obtain ⟨p', hp'⟩ : ∃ p', (made y).ports[k]? = some p' := ⟨_, List.getElem?_eq_getElem (by omega)⟩
            have hfp := fitsAll_get MOK.out.ports hp
            have hfp' := fitsAll_get MOK2.out.ports hp'
            obtain ⟨g, off, hA, fr⟩ := (R1.out.kept hkr).get hp
            obtain ⟨g5, o5, hA5, fr5⟩ := (R5.out.kept hkr).get hp'
            rw [hA] at y1
            rw [hA5] at y2
            have hds := eqRows_drop hp hp'
            rw [HD.out] at hds
            have sP' : (Try.prog.info? 72).map (·.size) = some p.length := by rw [fits_length hfp]; exact sizeP
            have sP2 : (Try.prog.info? 72).map (·.size) = some p'.length := by rw [fits_length hfp']; exact sizeP
            have hgA : ∀ w1, (∃ m, w1 = wr.drewN m) → w1.rangeAt g (off + k * 21) p := by
              rintro _ ⟨m, rfl⟩
              exact fr
            have hgB : ∀ w1, (∃ m, w1 = wr.drewN m) → w1.rangeAt g5 (o5 + k * 21) p' := by
              rintro _ ⟨m, rfl⟩
              exact fr5
            have HA := Lib.hid hgA
            have HB' := Lib.hid hgB
            have HFP := Lib.hid hfp
            have HFP' := Lib.hid hfp'
            have SP := Lib.hid sP'
            have SP2 := Lib.hid sP2
            have HDS := Lib.hid hds
            have HKR := Lib.hid hkr
            clear hp hp' fr fr5 hfp hfp' sP' sP2 hgA hgB hkr hA hA5 hds
            go_wp2_with fail
            refine wp_region_quiet_lit (by kernel_rfl) (by kernel_rfl) ?_
            repeat (first | (first | refine wpQuiet_load_mid rfl _ (.tmp 100) rfl g _ rfl p _ HA.out Try.underlying72 rfl SP.out ?_ | refine wpQuiet_load_mid rfl _ (.tmp 105) rfl g5 _ rfl p' _ HB'.out Try.underlying72 rfl SP2.out ?_ | (refine wpQuiet_eql_cells rfl _ _ _ _ rfl p p' rfl rfl leavesP (by decide) aggP guardP HFP.out HFP'.out ?_)) | quiet_step (fail))
            refine wpQuiet_nil ?_
            intro _ hw'
            obtain ⟨nq, hw''⟩ := hw'
            subst hw''
            go_wp2_with fail
            refine ⟨⟨k + 1, eqCells p p', by omega, by go_num, rfl, fun h => ⟨HP.out, ?_⟩, fun h => ?_, HKR.out.drewN _⟩, by simp [intOf]; omega⟩
            · rw [HDS.out, h, Bool.true_and]
            · rw [res1, HDS.out, h, Bool.false_and, Bool.and_false]
          · have hr : res1 (made x) (made y) = true := by
              rw [res1, HP.out, ← HD.out, List.drop_of_length_le (by omega), List.drop_of_length_le (by have := HL.out; omega)]
              rfl
            have HR := Lib.hid hr
            have HKR := Lib.hid hkr
            clear hr hkr
            go_wp2_with fail
            go_meet
            exact ⟨by rw [HR.out], HKR.out⟩
    case rest =>
      rename World => wd0
      obtain ⟨rfl, hkd⟩ := hcut
      have KWW := Lib.hid hkd
      clear hkd HKC
      have hkcur := KWW.out
      have HKC := Lib.hid hkcur
      clear hkcur KWW
      go_upto_block 2 with (fail)
      go_cut [10] (fun s wx => s = .bool (res2 (made x) (made y)) ∧ Kept noB W wx)
      case first =>
       as_aux_lemma =>
        go_wp2_with fail
        go_loopw [10, 12] (fun b i wr => ∃ (k : Nat) (c : Bool), k ≤ (made x).vlans.length ∧ i = .int .i64 k ∧ b = .bool c ∧ (c = true → res1 (made x) (made y) = true ∧ eqRows ((made x).vlans.drop k) ((made y).vlans.drop k) = eqRows (made x).vlans (made y).vlans) ∧ (c = false → res2 (made x) (made y) = false) ∧ Kept noB W wr) (fun _ i _ => (made x).vlans.length - (intOf i).toNat)
        case atStart => exact ⟨0, res1 (made x) (made y), Nat.zero_le _, rfl, rfl, fun h => ⟨h, rfl⟩, fun h => by simp [res2, h], HKC.out⟩
        case round =>
          clear HKC
          obtain ⟨k, c, hk, rfl, rfl, ht, hf, hkr⟩ := hrel
          have hnl : (made x).vlans.length ≤ 1000 := MOK.out.l2
          have y1 := hkr.cell u7 (fun e => e)
          have y2 := hkr.cell v7 (fun e => e)
          cases c with
          | false =>
            have HF := Lib.hid (hf rfl)
            have HKR := Lib.hid hkr
            clear hf ht hkr
            go_wp2_with fail
            go_meet
            exact ⟨by rw [HF.out], HKR.out⟩
          | true =>
            obtain ⟨hp, hd⟩ := ht rfl
            have hlens := res0_lens (res1_0 hp)
            have HP := Lib.hid hp
            have HD := Lib.hid hd
            have HL := Lib.hid hlens
            clear hp hd hlens hf ht
            by_cases hlt : k < (made x).vlans.length
            · have hki : (k : Int) < ((made x).vlans.length : Int) := by omega
              have hki2 : (k : Int) < ((made y).vlans.length : Int) := by have := HL.out; omega
              have hnl2 : (made y).vlans.length ≤ 1000 := MOK2.out.l2
              obtain ⟨p, hp⟩ : ∃ p, (made x).vlans[k]? = some p := ⟨_, List.getElem?_eq_getElem hlt⟩
              obtain ⟨p', hp'⟩ : ∃ p', (made y).vlans[k]? = some p' := ⟨_, List.getElem?_eq_getElem (by omega)⟩
              have hfp := fitsAll_get MOK.out.vlans hp
              have hfp' := fitsAll_get MOK2.out.vlans hp'
              obtain ⟨g, off, hA, fr⟩ := (R2.out.kept hkr).get hp
              obtain ⟨g5, o5, hA5, fr5⟩ := (R6.out.kept hkr).get hp'
              rw [hA] at y1
              rw [hA5] at y2
              have hds := eqRows_drop hp hp'
              rw [HD.out] at hds
              have sP' : (Try.prog.info? 75).map (·.size) = some p.length := by rw [fits_length hfp]; exact sizeV
              have sP2 : (Try.prog.info? 75).map (·.size) = some p'.length := by rw [fits_length hfp']; exact sizeV
              have hgA : ∀ w1, (∃ m, w1 = wr.drewN m) → w1.rangeAt g (off + k * 3) p := by
                rintro _ ⟨m, rfl⟩
                exact fr
              have hgB : ∀ w1, (∃ m, w1 = wr.drewN m) → w1.rangeAt g5 (o5 + k * 3) p' := by
                rintro _ ⟨m, rfl⟩
                exact fr5
              have HA := Lib.hid hgA
              have HB' := Lib.hid hgB
              have HFP := Lib.hid hfp
              have HFP' := Lib.hid hfp'
              have SP := Lib.hid sP'
              have SP2 := Lib.hid sP2
              have HDS := Lib.hid hds
              have HKR := Lib.hid hkr
              clear hp hp' fr fr5 hfp hfp' sP' sP2 hgA hgB hkr hA hA5 hds
              go_wp2_with fail
              refine wp_region_quiet_lit (by kernel_rfl) (by kernel_rfl) ?_
              repeat (first | (first | refine wpQuiet_load_mid rfl _ (.tmp 121) rfl g _ rfl p _ HA.out Try.underlying75 rfl SP.out ?_ | refine wpQuiet_load_mid rfl _ (.tmp 126) rfl g5 _ rfl p' _ HB'.out Try.underlying75 rfl SP2.out ?_ | (refine wpQuiet_eql_cells rfl _ _ _ _ rfl p p' rfl rfl leavesV (by decide) aggV guardV HFP.out HFP'.out ?_)) | quiet_step (fail))
              refine wpQuiet_nil ?_
              intro _ hw'
              obtain ⟨nq, hw''⟩ := hw'
              subst hw''
              go_wp2_with fail
              refine ⟨⟨k + 1, eqCells p p', by omega, by go_num, rfl, fun h => ⟨HP.out, ?_⟩, fun h => ?_, HKR.out.drewN _⟩, by simp [intOf]; omega⟩
              · rw [HDS.out, h, Bool.true_and]
              · rw [res2, HDS.out, h, Bool.false_and, Bool.and_false]
            · have hr : res2 (made x) (made y) = true := by
                rw [res2, HP.out, ← HD.out, List.drop_of_length_le (by omega), List.drop_of_length_le (by have := HL.out; omega)]
                rfl
              have HR := Lib.hid hr
              have HKR := Lib.hid hkr
              clear hr hkr
              go_wp2_with fail
              go_meet
              exact ⟨by rw [HR.out], HKR.out⟩
      case rest =>
        rename World => wd1
        obtain ⟨rfl, hkd⟩ := hcut
        have KWW := Lib.hid hkd
        clear hkd HKC
        have hkcur := KWW.out
        have HKC := Lib.hid hkcur
        clear hkcur KWW
        go_upto_block 4 with (fail)
        go_cut [10] (fun s wx => s = .bool (res3 (made x) (made y)) ∧ Kept noB W wx)
        case first =>
         as_aux_lemma =>
          go_wp2_with fail
          go_loopw [10, 13] (fun b i wr => ∃ (k : Nat) (c : Bool), k ≤ (made x).stat.length ∧ i = .int .i64 k ∧ b = .bool c ∧ (c = true → res2 (made x) (made y) = true ∧ eqRows ((made x).stat.drop k) ((made y).stat.drop k) = eqRows (made x).stat (made y).stat) ∧ (c = false → res3 (made x) (made y) = false) ∧ Kept noB W wr) (fun _ i _ => (made x).stat.length - (intOf i).toNat)
          case atStart => exact ⟨0, res2 (made x) (made y), Nat.zero_le _, rfl, rfl, fun h => ⟨h, rfl⟩, fun h => by simp [res3, h], HKC.out⟩
          case round =>
            clear HKC
            obtain ⟨k, c, hk, rfl, rfl, ht, hf, hkr⟩ := hrel
            have hnl : (made x).stat.length ≤ 1000 := MOK.out.l3
            have y1 := hkr.cell u8 (fun e => e)
            have y2 := hkr.cell v8 (fun e => e)
            cases c with
            | false =>
              have HF := Lib.hid (hf rfl)
              have HKR := Lib.hid hkr
              clear hf ht hkr
              go_wp2_with fail
              go_meet
              exact ⟨by rw [HF.out], HKR.out⟩
            | true =>
              obtain ⟨hp, hd⟩ := ht rfl
              have hlens := res0_lens (res2_0 hp)
              have HP := Lib.hid hp
              have HD := Lib.hid hd
              have HL := Lib.hid hlens
              clear hp hd hlens hf ht
              by_cases hlt : k < (made x).stat.length
              · have hki : (k : Int) < ((made x).stat.length : Int) := by omega
                have hki2 : (k : Int) < ((made y).stat.length : Int) := by have := HL.out; omega
                have hnl2 : (made y).stat.length ≤ 1000 := MOK2.out.l3
                obtain ⟨p, hp⟩ : ∃ p, (made x).stat[k]? = some p := ⟨_, List.getElem?_eq_getElem hlt⟩
                obtain ⟨p', hp'⟩ : ∃ p', (made y).stat[k]? = some p' := ⟨_, List.getElem?_eq_getElem (by omega)⟩
                have hfp := fitsAll_get MOK.out.stat hp
                have hfp' := fitsAll_get MOK2.out.stat hp'
                obtain ⟨g, off, hA, fr⟩ := (R3.out.kept hkr).get hp
                obtain ⟨g5, o5, hA5, fr5⟩ := (R7.out.kept hkr).get hp'
                rw [hA] at y1
                rw [hA5] at y2
                have hds := eqRows_drop hp hp'
                rw [HD.out] at hds
                have sP' : (Try.prog.info? 81).map (·.size) = some p.length := by rw [fits_length hfp]; exact sizeS
                have sP2 : (Try.prog.info? 81).map (·.size) = some p'.length := by rw [fits_length hfp']; exact sizeS
                have hgA : ∀ w1, (∃ m, w1 = wr.drewN m) → w1.rangeAt g (off + k * 8) p := by
                  rintro _ ⟨m, rfl⟩
                  exact fr
                have hgB : ∀ w1, (∃ m, w1 = wr.drewN m) → w1.rangeAt g5 (o5 + k * 8) p' := by
                  rintro _ ⟨m, rfl⟩
                  exact fr5
                have HA := Lib.hid hgA
                have HB' := Lib.hid hgB
                have HFP := Lib.hid hfp
                have HFP' := Lib.hid hfp'
                have SP := Lib.hid sP'
                have SP2 := Lib.hid sP2
                have HDS := Lib.hid hds
                have HKR := Lib.hid hkr
                clear hp hp' fr fr5 hfp hfp' sP' sP2 hgA hgB hkr hA hA5 hds
                go_wp2_with fail
                refine wp_region_quiet_lit (by kernel_rfl) (by kernel_rfl) ?_
                repeat (first | (first | refine wpQuiet_load_mid rfl _ (.tmp 142) rfl g _ rfl p _ HA.out Try.underlying81 rfl SP.out ?_ | refine wpQuiet_load_mid rfl _ (.tmp 147) rfl g5 _ rfl p' _ HB'.out Try.underlying81 rfl SP2.out ?_ | (refine wpQuiet_eql_cells rfl _ _ _ _ rfl p p' rfl rfl leavesS (by decide) aggS guardS HFP.out HFP'.out ?_)) | quiet_step (fail))
                refine wpQuiet_nil ?_
                intro _ hw'
                obtain ⟨nq, hw''⟩ := hw'
                subst hw''
                go_wp2_with fail
                refine ⟨⟨k + 1, eqCells p p', by omega, by go_num, rfl, fun h => ⟨HP.out, ?_⟩, fun h => ?_, HKR.out.drewN _⟩, by simp [intOf]; omega⟩
                · rw [HDS.out, h, Bool.true_and]
                · rw [res3, HDS.out, h, Bool.false_and, Bool.and_false]
              · have hr : res3 (made x) (made y) = true := by
                  rw [res3, HP.out, ← HD.out, List.drop_of_length_le (by omega), List.drop_of_length_le (by have := HL.out; omega)]
                  rfl
                have HR := Lib.hid hr
                have HKR := Lib.hid hkr
                clear hr hkr
                go_wp2_with fail
                go_meet
                exact ⟨by rw [HR.out], HKR.out⟩
        case rest =>
          rename World => wd2
          obtain ⟨rfl, hkd⟩ := hcut
          have KWW := Lib.hid hkd
          clear hkd HKC
          have hkcur := KWW.out
          have HKC := Lib.hid hkcur
          clear hkcur KWW
          go_upto_block 6 with (fail)
          go_cut [10] (fun s wx => s = .bool (res4 (made x) (made y)) ∧ Kept noB W wx)
          case first =>
           as_aux_lemma =>
            go_wp2_with fail
            go_loopw [10, 14] (fun b i wr => ∃ (k : Nat) (c : Bool), k ≤ (made x).fdb.length ∧ i = .int .i64 k ∧ b = .bool c ∧ (c = true → res3 (made x) (made y) = true ∧ eqRows ((made x).fdb.drop k) ((made y).fdb.drop k) = eqRows (made x).fdb (made y).fdb) ∧ (c = false → res4 (made x) (made y) = false) ∧ Kept noB W wr) (fun _ i _ => (made x).fdb.length - (intOf i).toNat)
            case atStart => exact ⟨0, res3 (made x) (made y), Nat.zero_le _, rfl, rfl, fun h => ⟨h, rfl⟩, fun h => by simp [res4, h], HKC.out⟩
            case round =>
              clear HKC
              obtain ⟨k, c, hk, rfl, rfl, ht, hf, hkr⟩ := hrel
              have hnl : (made x).fdb.length ≤ 1000 := MOK.out.l4
              have y1 := hkr.cell u9 (fun e => e)
              have y2 := hkr.cell v9 (fun e => e)
              cases c with
              | false =>
                have HF := Lib.hid (hf rfl)
                have HKR := Lib.hid hkr
                clear hf ht hkr
                go_wp2_with fail
                go_meet
                exact ⟨by rw [HF.out], HKR.out⟩
              | true =>
                obtain ⟨hp, hd⟩ := ht rfl
                have hlens := res0_lens (res3_0 hp)
                have HP := Lib.hid hp
                have HD := Lib.hid hd
                have HL := Lib.hid hlens
                clear hp hd hlens hf ht
                by_cases hlt : k < (made x).fdb.length
                · have hki : (k : Int) < ((made x).fdb.length : Int) := by omega
                  have hki2 : (k : Int) < ((made y).fdb.length : Int) := by have := HL.out; omega
                  have hnl2 : (made y).fdb.length ≤ 1000 := MOK2.out.l4
                  obtain ⟨p, hp⟩ : ∃ p, (made x).fdb[k]? = some p := ⟨_, List.getElem?_eq_getElem hlt⟩
                  obtain ⟨p', hp'⟩ : ∃ p', (made y).fdb[k]? = some p' := ⟨_, List.getElem?_eq_getElem (by omega)⟩
                  have hfp := fitsAll_get MOK.out.fdb hp
                  have hfp' := fitsAll_get MOK2.out.fdb hp'
                  obtain ⟨g, off, hA, fr⟩ := (R4.out.kept hkr).get hp
                  obtain ⟨g5, o5, hA5, fr5⟩ := (R8.out.kept hkr).get hp'
                  rw [hA] at y1
                  rw [hA5] at y2
                  have hds := eqRows_drop hp hp'
                  rw [HD.out] at hds
                  have sP' : (Try.prog.info? 85).map (·.size) = some p.length := by rw [fits_length hfp]; exact sizeF
                  have sP2 : (Try.prog.info? 85).map (·.size) = some p'.length := by rw [fits_length hfp']; exact sizeF
                  have hgA : ∀ w1, (∃ m, w1 = wr.drewN m) → w1.rangeAt g (off + k * 9) p := by
                    rintro _ ⟨m, rfl⟩
                    exact fr
                  have hgB : ∀ w1, (∃ m, w1 = wr.drewN m) → w1.rangeAt g5 (o5 + k * 9) p' := by
                    rintro _ ⟨m, rfl⟩
                    exact fr5
                  have HA := Lib.hid hgA
                  have HB' := Lib.hid hgB
                  have HFP := Lib.hid hfp
                  have HFP' := Lib.hid hfp'
                  have SP := Lib.hid sP'
                  have SP2 := Lib.hid sP2
                  have HDS := Lib.hid hds
                  have HKR := Lib.hid hkr
                  clear hp hp' fr fr5 hfp hfp' sP' sP2 hgA hgB hkr hA hA5 hds
                  go_wp2_with fail
                  refine wp_region_quiet_lit (by kernel_rfl) (by kernel_rfl) ?_
                  repeat (first | (first | refine wpQuiet_load_mid rfl _ (.tmp 163) rfl g _ rfl p _ HA.out Try.underlying85 rfl SP.out ?_ | refine wpQuiet_load_mid rfl _ (.tmp 168) rfl g5 _ rfl p' _ HB'.out Try.underlying85 rfl SP2.out ?_ | (refine wpQuiet_eql_cells rfl _ _ _ _ rfl p p' rfl rfl leavesF (by decide) aggF guardF HFP.out HFP'.out ?_)) | quiet_step (fail))
                  refine wpQuiet_nil ?_
                  intro _ hw'
                  obtain ⟨nq, hw''⟩ := hw'
                  subst hw''
                  go_wp2_with fail
                  refine ⟨⟨k + 1, eqCells p p', by omega, by go_num, rfl, fun h => ⟨HP.out, ?_⟩, fun h => ?_, HKR.out.drewN _⟩, by simp [intOf]; omega⟩
                  · rw [HDS.out, h, Bool.true_and]
                  · rw [res4, HDS.out, h, Bool.false_and, Bool.and_false]
                · have hr : res4 (made x) (made y) = true := by
                    rw [res4, HP.out, ← HD.out, List.drop_of_length_le (by omega), List.drop_of_length_le (by have := HL.out; omega)]
                    rfl
                  have HR := Lib.hid hr
                  have HKR := Lib.hid hkr
                  clear hr hkr
                  go_wp2_with fail
                  go_meet
                  exact ⟨by rw [HR.out], HKR.out⟩
          case rest =>
            rename World => wd3
            obtain ⟨rfl, hkd⟩ := hcut
            have KWW := Lib.hid hkd
            clear hkd HKC
            go_upto_region 22 with (fail)
            have st7 := (STZ7.out.kept KW.out).kept KWW.out
            have st8 := (STZ8.out.kept KW.out).kept KWW.out
            have st9 := ST9.out.kept KWW.out
            have own9 := OWN9.out.kept KWW.out
            obtain ⟨sm, hsm⟩ : ∃ sm, sameR (made x) (made y) = sm := ⟨_, rfl⟩
            have q1 := fun W1 (hk : Kept noB wd3 W1) => same_calls (made x) (made y) P V S F P2 V2 S2 F2 W1 MOK.out MOK2.out (st7.at'.kept hk) (st8.at'.kept hk)
            have q2 := fun W1 (hk : Kept noB wd3 W1) => same_calls (made y) (made x) P2 V2 S2 F2 P V S F W1 MOK2.out MOK.out (st8.at'.kept hk) (st7.at'.kept hk)
            have q3 := fun W1 (hk : Kept noB wd3 W1) => same_calls (made x) (made x) P V S F P9 V9 S9 F9 W1 MOK.out MOK.out (st7.at'.kept hk) (st9.at'.kept hk)
            rw [sameR_comm MOK2.out MOK.out] at q2
            rw [sameR_self MOK.out] at q3
            rw [hsm] at q1 q2
            rw [res4_same, hsm]
            have k7 := st7.blk.range (xs := recC (made x) P V S F) (o := 0) (fun j v hv => by rwa [Nat.zero_add])
            have k8 := st8.blk.range (xs := recC (made y) P2 V2 S2 F2) (o := 0) (fun j v hv => by rwa [Nat.zero_add])
            have k9 := st9.blk.range (xs := recC (made x) P9 V9 S9 F9) (o := 0) (fun j v hv => by rwa [Nat.zero_add])
            have sz7 : (Try.prog.info? 63).map (·.size) = some (recC (made x) P V S F).length := by rw [recC_len MOK.out]; exact sizeR
            have sz8 : (Try.prog.info? 63).map (·.size) = some (recC (made y) P2 V2 S2 F2).length := by rw [recC_len MOK2.out]; exact sizeR
            have sz9 : (Try.prog.info? 63).map (·.size) = some (recC (made x) P9 V9 S9 F9).length := by rw [recC_len MOK.out]; exact sizeR
            have HKD := Lib.hid (KW.out.no KWW.out)
            have T9 := Lib.hid (show StAt wd3 X9 (made x) P9 V9 S9 F9 ∧ RecOwn wz.heap.size wd3 (made x) P9 V9 S9 F9 from ⟨st9, own9⟩)
            have Q1 := Lib.hid q1
            have Q2 := Lib.hid q2
            have Q3 := Lib.hid q3
            have K7 := Lib.hid k7
            have K8 := Lib.hid k8
            have K9 := Lib.hid k9
            have SZ7 := Lib.hid sz7
            have SZ8 := Lib.hid sz8
            have SZ9 := Lib.hid sz9
            clear st7 st8 st9 own9 hsm q1 q2 q3 k7 k8 k9 sz7 sz8 sz9 KWW KW CF7 CF8 CN7 CN8 SC7 SC8 SN7 SN8 FC7 FC8 FN7 FN8 R1 R2 R3 R4 R5 R6 R7 R8 B7 B8 u6 u7 u8 u9 cb7 v6 v7 v8 v9 cb8 OWN9 ST9
            generalize recC (made x) P V S F = s7 at *
            generalize recC (made y) P2 V2 S2 F2 = s8 at *
            generalize hs9 : recC (made x) P9 V9 S9 F9 = s9 at *
            have HS9 := Lib.hid hs9
            clear hs9
            go_cut [188] (fun s wx => s = .bool false ∧ Kept noB wd3 wx)
            case first =>
             as_aux_lemma =>
              cases sm
              all_goals
                have k7 := K7.out
                have k8 := K8.out
                go_wp2_with (first | refine wpList_load_midG (by exact rfl) 63 (.tmp 7) rfl X7 0 rfl s7 _ (by exact k7) Try.underlying63 rfl SZ7.out ?_ | refine wpList_load_midG (by exact rfl) 63 (.tmp 8) rfl X8 0 rfl s8 _ (by exact k8) Try.underlying63 rfl SZ8.out ?_)
                refine (Q1.out wd3 (Kept.refl noB wd3)).mono ?_
                rintro e w5 ⟨rfl, hk5⟩
                have HK5 := Lib.hid hk5
                have k7 := rangeAt_kept K7.out hk5 (fun e => e)
                have k8 := rangeAt_kept K8.out hk5 (fun e => e)
                clear hk5
                go_wp2_with (first | refine wpList_load_midG (by exact rfl) 63 (.tmp 7) rfl X7 0 rfl s7 _ (by exact k7) Try.underlying63 rfl SZ7.out ?_ | refine wpList_load_midG (by exact rfl) 63 (.tmp 8) rfl X8 0 rfl s8 _ (by exact k8) Try.underlying63 rfl SZ8.out ?_)
                refine (Q2.out w5 HK5.out).mono ?_
                rintro e w6 ⟨rfl, hk6⟩
                have HK6 := Lib.hid (HK5.out.no hk6)
                have k7 := rangeAt_kept K7.out HK6.out (fun e => e)
                have k9 := rangeAt_kept K9.out HK6.out (fun e => e)
                clear hk6 k8
                go_wp2_with (first | refine wpList_load_midG (by exact rfl) 63 (.tmp 7) rfl X7 0 rfl s7 _ (by exact k7) Try.underlying63 rfl SZ7.out ?_ | refine wpList_load_midG (by exact rfl) 63 (.tmp 9) rfl X9 0 rfl s9 _ (by exact k9) Try.underlying63 rfl SZ9.out ?_)
                refine (Q3.out w6 HK6.out).mono ?_
                rintro e w7 ⟨rfl, hk7⟩
                have HK7 := Lib.hid (HK6.out.no hk7)
                clear k7 k9 hk7
                go_wp2_with fail
                go_meet
                exact ⟨rfl, HK7.out⟩
            case rest =>
              rename World => we
              obtain ⟨rfl, hke⟩ := hcut
              have HKE := Lib.hid (HKD.out.no hke)
              have T9' := Lib.hid (show StAt we X9 (made x) P9 V9 S9 F9 ∧ RecOwn wz.heap.size we (made x) P9 V9 S9 F9 from ⟨T9.out.1.kept hke, T9.out.2.kept hke⟩)
              clear hke HKD T9 Q1 Q2 Q3 K7 K8 K9
              have hat9 := T9'.out.1.at'
              obtain ⟨⟨A9, k9, rfl, _⟩, ⟨B9, m9, rfl, _⟩, ⟨C9, n9, rfl, _⟩, ⟨D9, o9, rfl, _⟩⟩ := hat9
              obtain ⟨a, rfl⟩ := Int.eq_ofNat_of_zero_le ha0
              have CH : Hid (Kept noB wz we ∧ ChAt (made x) wz.heap.size X9 a (.slice A9 (made x).ports.length k9) (.slice B9 (made x).vlans.length m9) (.slice C9 (made x).stat.length n9) (.slice D9 (made x).fdb.length o9) 0 false we) := Lib.hid ⟨HKE.out, ChAt.start T9'.out.1 T9'.out.2⟩
              have ha2 : a < 256 := by omega
              clear HKE T9' HS9 ha0 ha1
              refine abs_frame (fun b0 => FA b0 a B X7 X9 ∧ b0.eval (.tmp 188) = .bool false) ?_ ⟨⟨rfl, rfl, rfl, rfl, rfl, rfl⟩, rfl⟩
              rintro b0 ⟨fa0, f188⟩
              apply_assumption
              refine wp_cond_false f188 ?_
              refine Go.wp_skip ?_
              simp only [Exit.then]
              apply_assumption
              refine wp_seq ?_
              refine wp_region_plainG (by kernel_rfl) (Slots b0 ch24D (valS (ch24V ) noE) (fun _ w => w = we)) (Slots.start rfl) ?_ ?_
              · intro f a' wx hI i o ho hfi hall
                have hi : i < 1 := (Array.getElem?_eq_some_iff.1 ho).1
                rcases (by omega : i = 0) with rfl
                all_goals
                  simp only [List.getElem?_toArray, List.getElem?_cons_zero, List.getElem?_cons_succ, Option.some.injEq] at ho
                  subst ho
                · as_aux_lemma =>
                    refine .inl ⟨wanted_free rfl, ?_⟩
                    refine wp_value (w' := wx) ?_ (VS.step hI (d := 15) (by rw [fa0.size]; kernel_rfl) (by decide) rfl hI.world (Kept.refl _ _) noE_kept)
                    (unfold execOp; simp only [List.map_toArray, List.map_cons, List.map_nil]; (try simp [go_sem]); try omega)
              · intro f b1 wx hf hI
                have hwx := hI.world
                have f15 : b1.eval (.tmp 15) = .bool false := hI.eval (k := 0) (by decide) (hf 0 (by decide))
                have fa1 := fa0.keep hI (by decide)
                clear hI hf
                rw [hwx]
                clear hwx
                change Code.wp _ _ _ _ _
                obtain ⟨ch, hch⟩ : ∃ ch, ch = false := ⟨_, rfl⟩
                rw [← hch] at f15 CH
                clear hch
                refine wp_seq ?_
                refine wp_mono (Q := (fun e b w => e = .normal ∧ FA b a B X7 X9 ∧ ∃ ch, b.eval (.tmp 15) = .bool ch ∧ Kept noB wz w ∧ ChAt (made x) wz.heap.size X9 a (.slice A9 (made x).ports.length k9) (.slice B9 (made x).vlans.length m9) (.slice C9 (made x).stat.length n9) (.slice D9 (made x).fdb.length o9) 1 ch w)) ?_ ?_
                · have hy := CH.out.2.cellP
                  have hnl : (made x).ports.length ≤ 1000 := MOK.out.l1
                  refine wp_seq ?_
                  refine wp_region_plainG (by kernel_rfl) (Slots b1 ch25D (valS (ch25V X9 (made x).ports.length k9 A9) noE) (fun _ w => w = we)) (Slots.start rfl) ?_ ?_
                  · intro f a' wx hI i o ho hfi hall
                    have hi : i < 4 := (Array.getElem?_eq_some_iff.1 ho).1
                    rcases (by omega : i = 0 ∨ i = 1 ∨ i = 2 ∨ i = 3) with rfl | rfl | rfl | rfl
                    all_goals
                      simp only [List.getElem?_toArray, List.getElem?_cons_zero, List.getElem?_cons_succ, Option.some.injEq] at ho
                      subst ho
                    · as_aux_lemma =>
                        have e9 : a'.eval (.tmp 9) = .pointer (some ⟨X9, 0, none⟩) := (hI.old (by decide)).trans fa1.f9
                        refine .inl ⟨wanted_free rfl, ?_⟩
                        refine wp_value (w' := wx) ?_ (VS.step hI (d := 189) (by rw [fa1.size]; kernel_rfl) (by decide) rfl hI.world (Kept.refl _ _) noE_kept)
                        (unfold execOp; simp only [List.map_toArray, List.map_cons, List.map_nil, e9]; (try simp [go_sem, e9]); try omega)
                    · as_aux_lemma =>
                        have e189 : a'.eval (.tmp 189) = .pointer (some ⟨X9, 6, none⟩) := hI.eval (k := 0) (by decide) (hall ⟨0, .data⟩ (by simp) rfl)
                        refine .inl ⟨wanted_free rfl, ?_⟩
                        have hwx := hI.world
                        have hc : wx.cell? ⟨X9, 6, none⟩ = some (.slice A9 (made x).ports.length k9) := by rw [hwx]; exact hy
                        refine wp_value (w' := wx) ?_ (VS.step hI (d := 190) (by rw [fa1.size]; kernel_rfl) (by decide) rfl hI.world (Kept.refl _ _) noE_kept)
                        (unfold execOp; simp only [List.map_toArray, List.map_cons, List.map_nil, e189, hc]; (try simp [go_sem, e189, hc]); try omega)
                    · as_aux_lemma =>
                        have e190 : a'.eval (.tmp 190) = .slice A9 (made x).ports.length k9 := hI.eval (k := 1) (by decide) (hall ⟨1, .data⟩ (by simp) rfl)
                        refine .inl ⟨wanted_free rfl, ?_⟩
                        refine wp_value (w' := wx) ?_ (VS.step hI (d := 191) (by rw [fa1.size]; kernel_rfl) (by decide) rfl hI.world (Kept.refl _ _) noE_kept)
                        have re190 := e190
                        simp only [Act.eval, Array.getD_eq_getD_getElem?] at re190
                        (unfold execOp; simp only [List.map_toArray, List.map_cons, List.map_nil, e190, re190]; (try simp [go_sem, e190, re190]); try omega)
                    · as_aux_lemma =>
                        have e191 : a'.eval (.tmp 191) = .int .i64 ((made x).ports.length : Int) := hI.eval (k := 2) (by decide) (hall ⟨2, .data⟩ (by simp) rfl)
                        refine .inl ⟨wanted_free rfl, ?_⟩
                        refine wp_value (w' := wx) ?_ (VS.step hI (d := 16) (by rw [fa1.size]; kernel_rfl) (by decide) rfl hI.world (Kept.refl _ _) noE_kept)
                        (unfold execOp; simp only [List.map_toArray, List.map_cons, List.map_nil, e191]; (try simp [go_sem, e191]); try omega)
                  · intro f p0 wx hf hI
                    have hwx := hI.world
                    have gn : p0.eval (.tmp 16) = .int .i64 ((made x).ports.length : Int) := hI.eval (k := 3) (by decide) (hf 3 (by decide))
                    have g15 : p0.eval (.tmp 15) = .bool ch := (hI.old (by decide)).trans f15
                    have ga := fa1.keep hI (by decide)
                    clear hI hf
                    rw [hwx]
                    clear hwx
                    change Code.wp _ _ _ _ _
                    refine wp_seq ?_
                    by_cases hn : 0 < (made x).ports.length
                    · have hn1 : (0 : Int) < ((made x).ports.length : Int) := by omega
                      have hmod : ((a : Int).tmod 4) = (a : Int) % 4 := Int.tmod_eq_emod_of_nonneg (by omega)
                      by_cases hj : a % 4 = 0
                      · have hj1 : ((a : Int) % 4) = 0 := by omega
                        refine wp_region_plainG (by kernel_rfl) (Slots p0 ch26cD (valS (ch26cV (made x).ports.length a) noE) (fun _ w => w = we)) (Slots.start rfl) ?_ ?_
                        · intro f a' wx hI i o ho hfi hall
                          have hi : i < 7 := (Array.getElem?_eq_some_iff.1 ho).1
                          rcases (by omega : i = 0 ∨ i = 1 ∨ i = 2 ∨ i = 3 ∨ i = 4 ∨ i = 5 ∨ i = 6) with rfl | rfl | rfl | rfl | rfl | rfl | rfl
                          all_goals
                            simp only [List.getElem?_toArray, List.getElem?_cons_zero, List.getElem?_cons_succ, Option.some.injEq] at ho
                            subst ho
                          · as_aux_lemma =>
                              have e16 : a'.eval (.tmp 16) = .int .i64 ((made x).ports.length : Int) := (hI.old (by decide)).trans gn
                              refine .inl ⟨wanted_free rfl, ?_⟩
                              refine wp_value (w' := wx) ?_ (VS.step hI (d := 192) (by rw [ga.size]; kernel_rfl) (by decide) rfl hI.world (Kept.refl _ _) noE_kept)
                              (unfold execOp; simp only [List.map_toArray, List.map_cons, List.map_nil, e16]; (try simp [go_sem, e16]); try omega)
                          · as_aux_lemma =>
                              have e192 : a'.eval (.tmp 192) = .int .i64 ((made x).ports.length : Int) := hI.eval (k := 0) (by decide) (hall ⟨0, .data⟩ (by simp) rfl)
                              refine .inl ⟨wanted_free rfl, ?_⟩
                              refine wp_value (w' := wx) ?_ (VS.step hI (d := 193) (by rw [ga.size]; kernel_rfl) (by decide) rfl hI.world (Kept.refl _ _) noE_kept)
                              (unfold execOp; simp only [List.map_toArray, List.map_cons, List.map_nil, e192, hn1]; (try simp [go_sem, e192, hn1]); try omega)
                          · as_aux_lemma =>
                              have e193 : a'.eval (.tmp 193) = .bool true := hI.eval (k := 1) (by decide) (hall ⟨1, .data⟩ (by simp) rfl)
                              refine .inl ⟨wanted_free rfl, ?_⟩
                              refine wp_value (w' := wx) ?_ (VS.step hI (d := 194) (by rw [ga.size]; kernel_rfl) (by decide) rfl hI.world (Kept.refl _ _) noE_kept)
                              (unfold execOp; simp only [List.map_toArray, List.map_cons, List.map_nil, e193]; (try simp [go_sem, e193]); try omega)
                          · as_aux_lemma =>
                              have e2 : a'.eval (.tmp 2) = .int .u8 (a : Int) := (hI.old (by decide)).trans ga.f2
                              have e194 : a'.eval (.tmp 194) = .bool true := hI.eval (k := 2) (by decide) (hall ⟨2, .guard⟩ (by simp) rfl)
                              refine .inl ⟨wanted_yes rfl (d := 194) rfl e194, ?_⟩
                              refine wp_value (w' := wx) ?_ (VS.step hI (d := 195) (by rw [ga.size]; kernel_rfl) (by decide) rfl hI.world (Kept.refl _ _) noE_kept)
                              (unfold execOp; simp only [List.map_toArray, List.map_cons, List.map_nil, e2]; (try simp [go_sem, e2]); try omega)
                          · as_aux_lemma =>
                              have e195 : a'.eval (.tmp 195) = .int .u8 (a : Int) := hI.eval (k := 3) (by decide) (hall ⟨3, .data⟩ (by simp) rfl)
                              have e194 : a'.eval (.tmp 194) = .bool true := hI.eval (k := 2) (by decide) (hall ⟨2, .guard⟩ (by simp) rfl)
                              refine .inl ⟨wanted_yes rfl (d := 194) rfl e194, ?_⟩
                              refine wp_value (w' := wx) ?_ (VS.step hI (d := 196) (by rw [ga.size]; kernel_rfl) (by decide) rfl hI.world (Kept.refl _ _) noE_kept)
                              (unfold execOp; simp only [List.map_toArray, List.map_cons, List.map_nil, e195, hmod]; (try simp [go_sem, e195, hmod]); try omega)
                          · as_aux_lemma =>
                              have e196 : a'.eval (.tmp 196) = .int .u8 ((a : Int) % 4) := hI.eval (k := 4) (by decide) (hall ⟨4, .data⟩ (by simp) rfl)
                              have e194 : a'.eval (.tmp 194) = .bool true := hI.eval (k := 2) (by decide) (hall ⟨2, .guard⟩ (by simp) rfl)
                              refine .inl ⟨wanted_yes rfl (d := 194) rfl e194, ?_⟩
                              refine wp_value (w' := wx) ?_ (VS.step hI (d := 197) (by rw [ga.size]; kernel_rfl) (by decide) rfl hI.world (Kept.refl _ _) noE_kept)
                              (unfold execOp; simp only [List.map_toArray, List.map_cons, List.map_nil, e196, hj1]; (try simp [go_sem, e196, hj1]); try omega)
                          · as_aux_lemma =>
                              have e194 : a'.eval (.tmp 194) = .bool true := hI.eval (k := 2) (by decide) (hall ⟨2, .data⟩ (by simp) rfl)
                              have e197 : a'.eval (.tmp 197) = .bool true := hI.eval (k := 5) (by decide) (hall ⟨5, .data⟩ (by simp) rfl)
                              refine .inl ⟨wanted_free rfl, ?_⟩
                              refine wp_value (w' := wx) ?_ (VS.step hI (d := 198) (by rw [ga.size]; kernel_rfl) (by decide) rfl hI.world (Kept.refl _ _) noE_kept)
                              (unfold execOp; simp only [List.map_toArray, List.map_cons, List.map_nil, e194, e197]; (try simp [go_sem, e194, e197]); try omega)
                        · intro f q0 wx hf hI
                          have hwx := hI.world
                          have gc : q0.eval (.tmp 198) = .bool true := hI.eval (k := 6) (by decide) (hf 6 (by decide))
                          have h15 : q0.eval (.tmp 15) = .bool ch := (hI.old (by decide)).trans g15
                          have hn16 : q0.eval (.tmp 16) = .int .i64 ((made x).ports.length : Int) := (hI.old (by decide)).trans gn
                          have ha := ga.keep hI (by decide)
                          clear hI hf
                          rw [hwx]
                          clear hwx
                          change Code.wp _ _ _ _ _
                          refine wp_cond_true gc ?_
                          refine wp_seq ?_
                          have hx : ChAt (made x) wz.heap.size X9 a (.slice A9 (made x).ports.length k9) (.slice B9 (made x).vlans.length m9) (.slice C9 (made x).stat.length n9) (.slice D9 (made x).fdb.length o9) (a % 4) ch we := by rw [hj]; exact CH.out.2
                          obtain rfl := hx.not
                          clear hx
                          obtain ⟨g, hA⟩ := CH.out.2.formP rfl hn
                          subst hA
                          obtain ⟨k, hk⟩ : ∃ k, a / 4 % (made x).ports.length = k := ⟨_, rfl⟩
                          have hkn : k < (made x).ports.length := by rw [← hk]; exact Nat.mod_lt _ hn
                          obtain ⟨p, hp⟩ : ∃ p, (made x).ports[k]? = some p := ⟨_, List.getElem?_eq_getElem hkn⟩
                          have hu : p[5]? = some (.bool (boolAt p 5)) := bool_at (fitsAll_get MOK.out.ports hp) rfl
                          obtain ⟨hcell, hfroz⟩ := CH.out.2.rowP rfl hp hu
                          obtain ⟨hturn, hHg⟩ := CH.out.2.turnP rfl hp hu hj (lf := .b) rfl ⟨_, rfl⟩ (v := .bool (!boolAt p 5)) (by simp)
                          have hki : (k : Int) < ((made x).ports.length : Int) := by omega
                          have hdiv : ((a : Int) / 4).tmod ((made x).ports.length : Int) = (k : Int) := by rw [Int.tmod_eq_emod_of_nonneg (by omega), ← hk]; push_cast; rfl
                          have hquo : ((a : Int).tdiv 4) = (a : Int) / 4 := Int.tdiv_eq_ediv_of_nonneg (by omega)
                          have hnil : ((made x).ports = []) = False := eq_false (fun e => by rw [e] at hn; exact absurd hn (by decide))
                          have hwq : IntKind.u8.wrap ((a : Int) / 4) = (a : Int) / 4 := by rw [IntKind.wrap_u8]; omega
                          have hwi : IntKind.i64.wrap ((a : Int) / 4) = (a : Int) / 4 := by rw [IntKind.wrap_i64]; omega
                          clear hk hkn hp hu hj hj1 hmod
                          refine wp_region_plainG (by kernel_rfl) (Slots q0 ch27D (valS (ch27V (made x).ports.length a k) noE) (fun _ w => w = we)) (Slots.start rfl) ?_ ?_
                          · intro f a' wx hI i o ho hfi hall
                            have hi : i < 6 := (Array.getElem?_eq_some_iff.1 ho).1
                            rcases (by omega : i = 0 ∨ i = 1 ∨ i = 2 ∨ i = 3 ∨ i = 4 ∨ i = 5) with rfl | rfl | rfl | rfl | rfl | rfl
                            all_goals
                              simp only [List.getElem?_toArray, List.getElem?_cons_zero, List.getElem?_cons_succ, Option.some.injEq] at ho
                              subst ho
                            · as_aux_lemma =>
                                have e2 : a'.eval (.tmp 2) = .int .u8 (a : Int) := (hI.old (by decide)).trans ha.f2
                                refine .inl ⟨wanted_free rfl, ?_⟩
                                refine wp_value (w' := wx) ?_ (VS.step hI (d := 199) (by rw [ha.size]; kernel_rfl) (by decide) rfl hI.world (Kept.refl _ _) noE_kept)
                                (unfold execOp; simp only [List.map_toArray, List.map_cons, List.map_nil, e2]; (try simp [go_sem, e2]); try omega)
                            · as_aux_lemma =>
                                have e199 : a'.eval (.tmp 199) = .int .u8 (a : Int) := hI.eval (k := 0) (by decide) (hall ⟨0, .data⟩ (by simp) rfl)
                                refine .inl ⟨wanted_free rfl, ?_⟩
                                refine wp_value (w' := wx) ?_ (VS.step hI (d := 200) (by rw [ha.size]; kernel_rfl) (by decide) rfl hI.world (Kept.refl _ _) noE_kept)
                                (unfold execOp; simp only [List.map_toArray, List.map_cons, List.map_nil, e199, hquo, hwq]; (try simp [go_sem, e199, hquo, hwq]); try omega)
                            · as_aux_lemma =>
                                have e200 : a'.eval (.tmp 200) = .int .u8 ((a : Int) / 4) := hI.eval (k := 1) (by decide) (hall ⟨1, .data⟩ (by simp) rfl)
                                refine .inl ⟨wanted_free rfl, ?_⟩
                                refine wp_value (w' := wx) ?_ (VS.step hI (d := 201) (by rw [ha.size]; kernel_rfl) (by decide) rfl hI.world (Kept.refl _ _) noE_kept)
                                (unfold execOp; simp only [List.map_toArray, List.map_cons, List.map_nil, e200, hwi]; (try simp [go_sem, e200, hwi]); try omega)
                            · as_aux_lemma =>
                                have e16 : a'.eval (.tmp 16) = .int .i64 ((made x).ports.length : Int) := (hI.old (by decide)).trans hn16
                                refine .inl ⟨wanted_free rfl, ?_⟩
                                refine wp_value (w' := wx) ?_ (VS.step hI (d := 202) (by rw [ha.size]; kernel_rfl) (by decide) rfl hI.world (Kept.refl _ _) noE_kept)
                                (unfold execOp; simp only [List.map_toArray, List.map_cons, List.map_nil, e16]; (try simp [go_sem, e16]); try omega)
                            · as_aux_lemma =>
                                have e201 : a'.eval (.tmp 201) = .int .i64 ((a : Int) / 4) := hI.eval (k := 2) (by decide) (hall ⟨2, .data⟩ (by simp) rfl)
                                have e202 : a'.eval (.tmp 202) = .int .i64 ((made x).ports.length : Int) := hI.eval (k := 3) (by decide) (hall ⟨3, .data⟩ (by simp) rfl)
                                refine .inl ⟨wanted_free rfl, ?_⟩
                                refine wp_value (w' := wx) ?_ (VS.step hI (d := 203) (by rw [ha.size]; kernel_rfl) (by decide) rfl hI.world (Kept.refl _ _) noE_kept)
                                (unfold execOp; simp only [List.map_toArray, List.map_cons, List.map_nil, e201, e202, hdiv, hnil]; (try simp [go_sem, e201, e202, hdiv, hnil]); try omega)
                            · as_aux_lemma =>
                                have e203 : a'.eval (.tmp 203) = .int .i64 (k : Int) := hI.eval (k := 4) (by decide) (hall ⟨4, .data⟩ (by simp) rfl)
                                refine .inl ⟨wanted_free rfl, ?_⟩
                                refine wp_value (w' := wx) ?_ (VS.step hI (d := 17) (by rw [ha.size]; kernel_rfl) (by decide) rfl hI.world (Kept.refl _ _) noE_kept)
                                (unfold execOp; simp only [List.map_toArray, List.map_cons, List.map_nil, e203]; (try simp [go_sem, e203]); try omega)
                          · intro f r0 wx hf hI
                            have hwx := hI.world
                            have hk17 : r0.eval (.tmp 17) = .int .i64 (k : Int) := hI.eval (k := 5) (by decide) (hf 5 (by decide))
                            have ia := ha.keep hI (by decide)
                            clear hI hf
                            rw [hwx]
                            clear hwx
                            change Code.wp _ _ _ _ _
                            refine wp_region_invG (by kernel_rfl) (by kernel_rfl) (Slots r0 ch28D (valS (ch28V X9 g (made x).ports.length k k9 (.bool (boolAt p 5)) (.bool (!boolAt p 5))) noE) (fun f w => ScW we.drew 12 10 ⟨g, k * 21 + 5, none⟩ (.bool (!boolAt p 5)) f w)) (Slots.start (ScW.start _ _ _ _ _)) ?_ ?_
                            · intro f a' wx hI i o ho hfi hall
                              have hi : i < 14 := (Array.getElem?_eq_some_iff.1 ho).1
                              rcases (by omega : i = 0 ∨ i = 1 ∨ i = 2 ∨ i = 3 ∨ i = 4 ∨ i = 5 ∨ i = 6 ∨ i = 7 ∨ i = 8 ∨ i = 9 ∨ i = 10 ∨ i = 11 ∨ i = 12 ∨ i = 13) with rfl | rfl | rfl | rfl | rfl | rfl | rfl | rfl | rfl | rfl | rfl | rfl | rfl | rfl
                              all_goals
                                simp only [List.getElem?_toArray, List.getElem?_cons_zero, List.getElem?_cons_succ, Option.some.injEq] at ho
                                subst ho
                              · as_aux_lemma =>
                                  have e9 : a'.eval (.tmp 9) = .pointer (some ⟨X9, 0, none⟩) := (hI.old (by decide)).trans ia.f9
                                  refine .inl ⟨wanted_free rfl, ?_⟩
                                  refine wp_value (w' := wx) ?_ (VS.step hI (d := 204) (by rw [ia.size]; kernel_rfl) (by decide) rfl (hI.world.step (by decide)) (Kept.refl _ _) noE_kept)
                                  (unfold execOp; simp only [List.map_toArray, List.map_cons, List.map_nil, e9]; (try simp [go_sem, e9]); try omega)
                              · as_aux_lemma =>
                                  have e204 : a'.eval (.tmp 204) = .pointer (some ⟨X9, 6, none⟩) := hI.eval (k := 0) (by decide) (hall ⟨0, .data⟩ (by simp) rfl)
                                  refine .inl ⟨wanted_free rfl, ?_⟩
                                  have hwx := hI.world.before (by decide) hfi
                                  have hc : wx.cell? ⟨X9, 6, none⟩ = some (.slice (some ⟨g, 0, none⟩) (made x).ports.length k9) := by rw [hwx]; exact hy
                                  refine wp_value (w' := wx) ?_ (VS.step hI (d := 205) (by rw [ia.size]; kernel_rfl) (by decide) rfl (hI.world.step (by decide)) (Kept.refl _ _) noE_kept)
                                  (unfold execOp; simp only [List.map_toArray, List.map_cons, List.map_nil, e204, hc]; (try simp [go_sem, e204, hc]); try omega)
                              · as_aux_lemma =>
                                  have e17 : a'.eval (.tmp 17) = .int .i64 (k : Int) := (hI.old (by decide)).trans hk17
                                  refine .inl ⟨wanted_free rfl, ?_⟩
                                  refine wp_value (w' := wx) ?_ (VS.step hI (d := 206) (by rw [ia.size]; kernel_rfl) (by decide) rfl (hI.world.step (by decide)) (Kept.refl _ _) noE_kept)
                                  (unfold execOp; simp only [List.map_toArray, List.map_cons, List.map_nil, e17]; (try simp [go_sem, e17]); try omega)
                              · as_aux_lemma =>
                                  have e9 : a'.eval (.tmp 9) = .pointer (some ⟨X9, 0, none⟩) := (hI.old (by decide)).trans ia.f9
                                  refine .inl ⟨wanted_free rfl, ?_⟩
                                  refine wp_value (w' := wx) ?_ (VS.step hI (d := 207) (by rw [ia.size]; kernel_rfl) (by decide) rfl (hI.world.step (by decide)) (Kept.refl _ _) noE_kept)
                                  (unfold execOp; simp only [List.map_toArray, List.map_cons, List.map_nil, e9]; (try simp [go_sem, e9]); try omega)
                              · as_aux_lemma =>
                                  have e207 : a'.eval (.tmp 207) = .pointer (some ⟨X9, 6, none⟩) := hI.eval (k := 3) (by decide) (hall ⟨3, .data⟩ (by simp) rfl)
                                  refine .inl ⟨wanted_free rfl, ?_⟩
                                  have hwx := hI.world.before (by decide) hfi
                                  have hc : wx.cell? ⟨X9, 6, none⟩ = some (.slice (some ⟨g, 0, none⟩) (made x).ports.length k9) := by rw [hwx]; exact hy
                                  refine wp_value (w' := wx) ?_ (VS.step hI (d := 208) (by rw [ia.size]; kernel_rfl) (by decide) rfl (hI.world.step (by decide)) (Kept.refl _ _) noE_kept)
                                  (unfold execOp; simp only [List.map_toArray, List.map_cons, List.map_nil, e207, hc]; (try simp [go_sem, e207, hc]); try omega)
                              · as_aux_lemma =>
                                  have e17 : a'.eval (.tmp 17) = .int .i64 (k : Int) := (hI.old (by decide)).trans hk17
                                  refine .inl ⟨wanted_free rfl, ?_⟩
                                  refine wp_value (w' := wx) ?_ (VS.step hI (d := 209) (by rw [ia.size]; kernel_rfl) (by decide) rfl (hI.world.step (by decide)) (Kept.refl _ _) noE_kept)
                                  (unfold execOp; simp only [List.map_toArray, List.map_cons, List.map_nil, e17]; (try simp [go_sem, e17]); try omega)
                              · as_aux_lemma =>
                                  have e208 : a'.eval (.tmp 208) = .slice (some ⟨g, 0, none⟩) (made x).ports.length k9 := hI.eval (k := 4) (by decide) (hall ⟨4, .data⟩ (by simp) rfl)
                                  have e209 : a'.eval (.tmp 209) = .int .i64 (k : Int) := hI.eval (k := 5) (by decide) (hall ⟨5, .data⟩ (by simp) rfl)
                                  refine .inl ⟨wanted_free rfl, ?_⟩
                                  refine wp_value (w' := wx) ?_ (VS.step hI (d := 210) (by rw [ia.size]; kernel_rfl) (by decide) rfl (hI.world.step (by decide)) (Kept.refl _ _) noE_kept)
                                  (unfold execOp; simp only [List.map_toArray, List.map_cons, List.map_nil, e208, e209, hki]; (try simp [go_sem, e208, e209, hki]); try omega)
                              · as_aux_lemma =>
                                  have e210 : a'.eval (.tmp 210) = .pointer (some ⟨g, k * 21, none⟩) := hI.eval (k := 6) (by decide) (hall ⟨6, .data⟩ (by simp) rfl)
                                  refine .inl ⟨wanted_free rfl, ?_⟩
                                  refine wp_value (w' := wx) ?_ (VS.step hI (d := 211) (by rw [ia.size]; kernel_rfl) (by decide) rfl (hI.world.step (by decide)) (Kept.refl _ _) noE_kept)
                                  (unfold execOp; simp only [List.map_toArray, List.map_cons, List.map_nil, e210]; (try simp [go_sem, e210]); try omega)
                              · as_aux_lemma =>
                                  have e211 : a'.eval (.tmp 211) = .pointer (some ⟨g, k * 21 + 5, none⟩) := hI.eval (k := 7) (by decide) (hall ⟨7, .data⟩ (by simp) rfl)
                                  refine .inl ⟨wanted_free rfl, ?_⟩
                                  have hwx := hI.world.before (by decide) hfi
                                  have hc : wx.cell? ⟨g, k * 21 + 5, none⟩ = some (.bool (boolAt p 5)) := by rw [hwx]; exact hcell
                                  refine wp_value (w' := wx) ?_ (VS.step hI (d := 212) (by rw [ia.size]; kernel_rfl) (by decide) rfl (hI.world.step (by decide)) (Kept.refl _ _) noE_kept)
                                  (unfold execOp; simp only [List.map_toArray, List.map_cons, List.map_nil, e211, hc]; (try simp [go_sem, e211, hc]); try omega)
                              · as_aux_lemma =>
                                  have e212 : a'.eval (.tmp 212) = .bool (boolAt p 5) := hI.eval (k := 8) (by decide) (hall ⟨8, .data⟩ (by simp) rfl)
                                  refine .inl ⟨wanted_free rfl, ?_⟩
                                  refine wp_value (w' := wx) ?_ (VS.step hI (d := 213) (by rw [ia.size]; kernel_rfl) (by decide) rfl (hI.world.step (by decide)) (Kept.refl _ _) noE_kept)
                                  (unfold execOp; simp only [List.map_toArray, List.map_cons, List.map_nil, e212]; (try simp [go_sem, e212]); try omega)
                              · as_aux_lemma =>
                                  have e205 : a'.eval (.tmp 205) = .slice (some ⟨g, 0, none⟩) (made x).ports.length k9 := hI.eval (k := 1) (by decide) (hall ⟨1, .data⟩ (by simp) rfl)
                                  have e206 : a'.eval (.tmp 206) = .int .i64 (k : Int) := hI.eval (k := 2) (by decide) (hall ⟨2, .data⟩ (by simp) rfl)
                                  refine .inl ⟨wanted_free rfl, ?_⟩
                                  refine wp_value (w' := wx) ?_ (VS.step hI (d := 214) (by rw [ia.size]; kernel_rfl) (by decide) rfl (hI.world.step (by decide)) (Kept.refl _ _) noE_kept)
                                  (unfold execOp; simp only [List.map_toArray, List.map_cons, List.map_nil, e205, e206, hki]; (try simp [go_sem, e205, e206, hki]); try omega)
                              · as_aux_lemma =>
                                  have e214 : a'.eval (.tmp 214) = .pointer (some ⟨g, k * 21, none⟩) := hI.eval (k := 10) (by decide) (hall ⟨10, .data⟩ (by simp) rfl)
                                  refine .inl ⟨wanted_free rfl, ?_⟩
                                  refine wp_value (w' := wx) ?_ (VS.step hI (d := 215) (by rw [ia.size]; kernel_rfl) (by decide) rfl (hI.world.step (by decide)) (Kept.refl _ _) noE_kept)
                                  (unfold execOp; simp only [List.map_toArray, List.map_cons, List.map_nil, e214]; (try simp [go_sem, e214]); try omega)
                              · as_aux_lemma =>
                                  have e215 : a'.eval (.tmp 215) = .pointer (some ⟨g, k * 21 + 5, none⟩) := hI.eval (k := 11) (by decide) (hall ⟨11, .data⟩ (by simp) rfl)
                                  have e213 : a'.eval (.tmp 213) = .bool (!boolAt p 5) := hI.eval (k := 9) (by decide) (hall ⟨9, .data⟩ (by simp) rfl)
                                  refine .inl ⟨wanted_free rfl, ?_⟩
                                  have hwx := hI.world.old hfi
                                  have hc : wx.cell? ⟨g, k * 21 + 5, none⟩ = some (.bool (boolAt p 5)) := by rw [hwx]; exact hcell
                                  have hz : wx.frozen? ⟨g, k * 21 + 5, none⟩ = false := by rw [hwx]; exact hfroz
                                  refine wp_skip (w' := wx.setCell ⟨g, k * 21 + 5, none⟩ (.bool (!boolAt p 5))) ?_ (hI.pass (by decide) (hI.world.store hfi (fun j hj => ?_)) (fun _ _ _ _ h => h))
                                  · (unfold execOp; simp only [List.map_toArray, List.map_cons, List.map_nil, e215, e213, hc, hz]; (try simp [go_sem, e215, e213, hc, hz]); try omega)
                                  · rcases (by omega : j = 0 ∨ j = 1 ∨ j = 2 ∨ j = 3 ∨ j = 4 ∨ j = 5 ∨ j = 6 ∨ j = 7 ∨ j = 8 ∨ j = 9) with rfl | rfl | rfl | rfl | rfl | rfl | rfl | rfl | rfl | rfl <;> exact hall ⟨_, .phase⟩ (by simp) rfl
                              · as_aux_lemma =>
                                  refine .inl ⟨wanted_free rfl, ?_⟩
                                  refine wp_value (w' := wx) ?_ (VS.step hI (d := 15) (by rw [ia.size]; kernel_rfl) (by decide) rfl (hI.world.step (by decide)) (Kept.refl _ _) noE_kept)
                                  (unfold execOp; simp only [List.map_toArray, List.map_cons, List.map_nil]; (try simp [go_sem]); try omega)
                            · intro f s0 wx hf hI
                              have hwx := hI.world.new (hf 12 (by decide))
                              have j15 : s0.eval (.tmp 15) = .bool true := hI.eval (k := 13) (by decide) (hf 13 (by decide))
                              have ja := ia.keep hI (by decide)
                              clear hI hf
                              rw [hwx]
                              clear hwx
                              exact ⟨rfl, ja, true, j15, (CH.out.1.drew).setCell (fun h => by have h2 : g < wz.heap.size := h; omega) _, hturn.kept (Kept.refl _ _).drew⟩
                      · have hj1 : ¬ ((a : Int) % 4) = 0 := by omega
                        refine wp_region_plainG (by kernel_rfl) (Slots p0 ch26bD (valS (ch26bV (made x).ports.length a) noE) (fun _ w => w = we)) (Slots.start rfl) ?_ ?_
                        · intro f a' wx hI i o ho hfi hall
                          have hi : i < 7 := (Array.getElem?_eq_some_iff.1 ho).1
                          rcases (by omega : i = 0 ∨ i = 1 ∨ i = 2 ∨ i = 3 ∨ i = 4 ∨ i = 5 ∨ i = 6) with rfl | rfl | rfl | rfl | rfl | rfl | rfl
                          all_goals
                            simp only [List.getElem?_toArray, List.getElem?_cons_zero, List.getElem?_cons_succ, Option.some.injEq] at ho
                            subst ho
                          · as_aux_lemma =>
                              have e16 : a'.eval (.tmp 16) = .int .i64 ((made x).ports.length : Int) := (hI.old (by decide)).trans gn
                              refine .inl ⟨wanted_free rfl, ?_⟩
                              refine wp_value (w' := wx) ?_ (VS.step hI (d := 192) (by rw [ga.size]; kernel_rfl) (by decide) rfl hI.world (Kept.refl _ _) noE_kept)
                              (unfold execOp; simp only [List.map_toArray, List.map_cons, List.map_nil, e16]; (try simp [go_sem, e16]); try omega)
                          · as_aux_lemma =>
                              have e192 : a'.eval (.tmp 192) = .int .i64 ((made x).ports.length : Int) := hI.eval (k := 0) (by decide) (hall ⟨0, .data⟩ (by simp) rfl)
                              refine .inl ⟨wanted_free rfl, ?_⟩
                              refine wp_value (w' := wx) ?_ (VS.step hI (d := 193) (by rw [ga.size]; kernel_rfl) (by decide) rfl hI.world (Kept.refl _ _) noE_kept)
                              (unfold execOp; simp only [List.map_toArray, List.map_cons, List.map_nil, e192, hn1]; (try simp [go_sem, e192, hn1]); try omega)
                          · as_aux_lemma =>
                              have e193 : a'.eval (.tmp 193) = .bool true := hI.eval (k := 1) (by decide) (hall ⟨1, .data⟩ (by simp) rfl)
                              refine .inl ⟨wanted_free rfl, ?_⟩
                              refine wp_value (w' := wx) ?_ (VS.step hI (d := 194) (by rw [ga.size]; kernel_rfl) (by decide) rfl hI.world (Kept.refl _ _) noE_kept)
                              (unfold execOp; simp only [List.map_toArray, List.map_cons, List.map_nil, e193]; (try simp [go_sem, e193]); try omega)
                          · as_aux_lemma =>
                              have e2 : a'.eval (.tmp 2) = .int .u8 (a : Int) := (hI.old (by decide)).trans ga.f2
                              have e194 : a'.eval (.tmp 194) = .bool true := hI.eval (k := 2) (by decide) (hall ⟨2, .guard⟩ (by simp) rfl)
                              refine .inl ⟨wanted_yes rfl (d := 194) rfl e194, ?_⟩
                              refine wp_value (w' := wx) ?_ (VS.step hI (d := 195) (by rw [ga.size]; kernel_rfl) (by decide) rfl hI.world (Kept.refl _ _) noE_kept)
                              (unfold execOp; simp only [List.map_toArray, List.map_cons, List.map_nil, e2]; (try simp [go_sem, e2]); try omega)
                          · as_aux_lemma =>
                              have e195 : a'.eval (.tmp 195) = .int .u8 (a : Int) := hI.eval (k := 3) (by decide) (hall ⟨3, .data⟩ (by simp) rfl)
                              have e194 : a'.eval (.tmp 194) = .bool true := hI.eval (k := 2) (by decide) (hall ⟨2, .guard⟩ (by simp) rfl)
                              refine .inl ⟨wanted_yes rfl (d := 194) rfl e194, ?_⟩
                              refine wp_value (w' := wx) ?_ (VS.step hI (d := 196) (by rw [ga.size]; kernel_rfl) (by decide) rfl hI.world (Kept.refl _ _) noE_kept)
                              (unfold execOp; simp only [List.map_toArray, List.map_cons, List.map_nil, e195, hmod]; (try simp [go_sem, e195, hmod]); try omega)
                          · as_aux_lemma =>
                              have e196 : a'.eval (.tmp 196) = .int .u8 ((a : Int) % 4) := hI.eval (k := 4) (by decide) (hall ⟨4, .data⟩ (by simp) rfl)
                              have e194 : a'.eval (.tmp 194) = .bool true := hI.eval (k := 2) (by decide) (hall ⟨2, .guard⟩ (by simp) rfl)
                              refine .inl ⟨wanted_yes rfl (d := 194) rfl e194, ?_⟩
                              refine wp_value (w' := wx) ?_ (VS.step hI (d := 197) (by rw [ga.size]; kernel_rfl) (by decide) rfl hI.world (Kept.refl _ _) noE_kept)
                              (unfold execOp; simp only [List.map_toArray, List.map_cons, List.map_nil, e196, hj1]; (try simp [go_sem, e196, hj1]); try omega)
                          · as_aux_lemma =>
                              have e194 : a'.eval (.tmp 194) = .bool true := hI.eval (k := 2) (by decide) (hall ⟨2, .data⟩ (by simp) rfl)
                              have e197 : a'.eval (.tmp 197) = .bool false := hI.eval (k := 5) (by decide) (hall ⟨5, .data⟩ (by simp) rfl)
                              refine .inl ⟨wanted_free rfl, ?_⟩
                              refine wp_value (w' := wx) ?_ (VS.step hI (d := 198) (by rw [ga.size]; kernel_rfl) (by decide) rfl hI.world (Kept.refl _ _) noE_kept)
                              (unfold execOp; simp only [List.map_toArray, List.map_cons, List.map_nil, e194, e197]; (try simp [go_sem, e194, e197]); try omega)
                        · intro f q0 wx hf hI
                          have hwx := hI.world
                          have gc : q0.eval (.tmp 198) = .bool false := hI.eval (k := 6) (by decide) (hf 6 (by decide))
                          have h15 : q0.eval (.tmp 15) = .bool ch := (hI.old (by decide)).trans g15
                          have hn16 : q0.eval (.tmp 16) = .int .i64 ((made x).ports.length : Int) := (hI.old (by decide)).trans gn
                          have ha := ga.keep hI (by decide)
                          clear hI hf
                          rw [hwx]
                          clear hwx
                          change Code.wp _ _ _ _ _
                          refine wp_cond_false gc ?_
                          exact Go.wp_skip ⟨rfl, ha, ch, h15, CH.out.1, CH.out.2.up⟩
                    · have hn0 : ((made x).ports.length : Int) = 0 := by omega
                      refine wp_region_plainG (by kernel_rfl) (Slots p0 ch26aD (valS (ch26aV (made x).ports.length a) noE) (fun _ w => w = we)) (Slots.start rfl) ?_ ?_
                      · intro f a' wx hI i o ho hfi hall
                        have hi : i < 7 := (Array.getElem?_eq_some_iff.1 ho).1
                        rcases (by omega : i = 0 ∨ i = 1 ∨ i = 2 ∨ i = 3 ∨ i = 4 ∨ i = 5 ∨ i = 6) with rfl | rfl | rfl | rfl | rfl | rfl | rfl
                        all_goals
                          simp only [List.getElem?_toArray, List.getElem?_cons_zero, List.getElem?_cons_succ, Option.some.injEq] at ho
                          subst ho
                        · as_aux_lemma =>
                            have e16 : a'.eval (.tmp 16) = .int .i64 ((made x).ports.length : Int) := (hI.old (by decide)).trans gn
                            refine .inl ⟨wanted_free rfl, ?_⟩
                            refine wp_value (w' := wx) ?_ (VS.step hI (d := 192) (by rw [ga.size]; kernel_rfl) (by decide) rfl hI.world (Kept.refl _ _) noE_kept)
                            (unfold execOp; simp only [List.map_toArray, List.map_cons, List.map_nil, e16]; (try simp [go_sem, e16]); try omega)
                        · as_aux_lemma =>
                            have e192 : a'.eval (.tmp 192) = .int .i64 ((made x).ports.length : Int) := hI.eval (k := 0) (by decide) (hall ⟨0, .data⟩ (by simp) rfl)
                            refine .inl ⟨wanted_free rfl, ?_⟩
                            refine wp_value (w' := wx) ?_ (VS.step hI (d := 193) (by rw [ga.size]; kernel_rfl) (by decide) rfl hI.world (Kept.refl _ _) noE_kept)
                            (unfold execOp; simp only [List.map_toArray, List.map_cons, List.map_nil, e192, hn0]; (try simp [go_sem, e192, hn0]); try omega)
                        · as_aux_lemma =>
                            have e193 : a'.eval (.tmp 193) = .bool false := hI.eval (k := 1) (by decide) (hall ⟨1, .data⟩ (by simp) rfl)
                            refine .inl ⟨wanted_free rfl, ?_⟩
                            refine wp_value (w' := wx) ?_ (VS.step hI (d := 194) (by rw [ga.size]; kernel_rfl) (by decide) rfl hI.world (Kept.refl _ _) noE_kept)
                            (unfold execOp; simp only [List.map_toArray, List.map_cons, List.map_nil, e193]; (try simp [go_sem, e193]); try omega)
                        · as_aux_lemma =>
                            have e194 : a'.eval (.tmp 194) = .bool false := hI.eval (k := 2) (by decide) (hall ⟨2, .guard⟩ (by simp) rfl)
                            exact .inr ⟨wanted_no rfl (d := 194) rfl e194 (by decide), VS.step hI (d := 195) (by rw [ga.size]; kernel_rfl) (by decide) rfl hI.world (Kept.refl _ _) noE_kept⟩
                        · as_aux_lemma =>
                            have e194 : a'.eval (.tmp 194) = .bool false := hI.eval (k := 2) (by decide) (hall ⟨2, .guard⟩ (by simp) rfl)
                            exact .inr ⟨wanted_no rfl (d := 194) rfl e194 (by decide), VS.step hI (d := 196) (by rw [ga.size]; kernel_rfl) (by decide) rfl hI.world (Kept.refl _ _) noE_kept⟩
                        · as_aux_lemma =>
                            have e194 : a'.eval (.tmp 194) = .bool false := hI.eval (k := 2) (by decide) (hall ⟨2, .guard⟩ (by simp) rfl)
                            exact .inr ⟨wanted_no rfl (d := 194) rfl e194 (by decide), VS.step hI (d := 197) (by rw [ga.size]; kernel_rfl) (by decide) rfl hI.world (Kept.refl _ _) noE_kept⟩
                        · as_aux_lemma =>
                            have e194 : a'.eval (.tmp 194) = .bool false := hI.eval (k := 2) (by decide) (hall ⟨2, .data⟩ (by simp) rfl)
                            have e197 : a'.eval (.tmp 197) = undef := hI.eval (k := 5) (by decide) (hall ⟨5, .data⟩ (by simp) rfl)
                            refine .inl ⟨wanted_free rfl, ?_⟩
                            refine wp_value (w' := wx) ?_ (VS.step hI (d := 198) (by rw [ga.size]; kernel_rfl) (by decide) rfl hI.world (Kept.refl _ _) noE_kept)
                            (unfold execOp; simp only [List.map_toArray, List.map_cons, List.map_nil, e194, e197]; (try simp [go_sem, e194, e197]); try omega)
                      · intro f q0 wx hf hI
                        have hwx := hI.world
                        have gc : q0.eval (.tmp 198) = .bool false := hI.eval (k := 6) (by decide) (hf 6 (by decide))
                        have h15 : q0.eval (.tmp 15) = .bool ch := (hI.old (by decide)).trans g15
                        have hn16 : q0.eval (.tmp 16) = .int .i64 ((made x).ports.length : Int) := (hI.old (by decide)).trans gn
                        have ha := ga.keep hI (by decide)
                        clear hI hf
                        rw [hwx]
                        clear hwx
                        change Code.wp _ _ _ _ _
                        refine wp_cond_false gc ?_
                        exact Go.wp_skip ⟨rfl, ha, ch, h15, CH.out.1, CH.out.2.up⟩
                · clear f15 fa1 CH ch
                  rintro e t0 wf0 ⟨rfl, ta0, ch, f15, hk, hc⟩
                  have CH := Lib.hid (show Kept noB wz wf0 ∧ ChAt (made x) wz.heap.size X9 a (.slice A9 (made x).ports.length k9) (.slice B9 (made x).vlans.length m9) (.slice C9 (made x).stat.length n9) (.slice D9 (made x).fdb.length o9) 1 ch wf0 from ⟨hk, hc⟩)
                  clear hk hc
                  change Code.wp _ _ _ _ _
                  refine wp_seq ?_
                  refine wp_mono (Q := (fun e b w => e = .normal ∧ FA b a B X7 X9 ∧ ∃ ch, b.eval (.tmp 15) = .bool ch ∧ Kept noB wz w ∧ ChAt (made x) wz.heap.size X9 a (.slice A9 (made x).ports.length k9) (.slice B9 (made x).vlans.length m9) (.slice C9 (made x).stat.length n9) (.slice D9 (made x).fdb.length o9) 2 ch w)) ?_ ?_
                  · have hy := CH.out.2.cellF
                    have hnl : (made x).fdb.length ≤ 1000 := MOK.out.l4
                    refine wp_seq ?_
                    refine wp_region_plainG (by kernel_rfl) (Slots t0 ch29D (valS (ch29V X9 (made x).fdb.length o9 D9) noE) (fun _ w => w = wf0)) (Slots.start rfl) ?_ ?_
                    · intro f a' wx hI i o ho hfi hall
                      have hi : i < 4 := (Array.getElem?_eq_some_iff.1 ho).1
                      rcases (by omega : i = 0 ∨ i = 1 ∨ i = 2 ∨ i = 3) with rfl | rfl | rfl | rfl
                      all_goals
                        simp only [List.getElem?_toArray, List.getElem?_cons_zero, List.getElem?_cons_succ, Option.some.injEq] at ho
                        subst ho
                      · as_aux_lemma =>
                          have e9 : a'.eval (.tmp 9) = .pointer (some ⟨X9, 0, none⟩) := (hI.old (by decide)).trans ta0.f9
                          refine .inl ⟨wanted_free rfl, ?_⟩
                          refine wp_value (w' := wx) ?_ (VS.step hI (d := 216) (by rw [ta0.size]; kernel_rfl) (by decide) rfl hI.world (Kept.refl _ _) noE_kept)
                          (unfold execOp; simp only [List.map_toArray, List.map_cons, List.map_nil, e9]; (try simp [go_sem, e9]); try omega)
                      · as_aux_lemma =>
                          have e216 : a'.eval (.tmp 216) = .pointer (some ⟨X9, 9, none⟩) := hI.eval (k := 0) (by decide) (hall ⟨0, .data⟩ (by simp) rfl)
                          refine .inl ⟨wanted_free rfl, ?_⟩
                          have hwx := hI.world
                          have hc : wx.cell? ⟨X9, 9, none⟩ = some (.slice D9 (made x).fdb.length o9) := by rw [hwx]; exact hy
                          refine wp_value (w' := wx) ?_ (VS.step hI (d := 217) (by rw [ta0.size]; kernel_rfl) (by decide) rfl hI.world (Kept.refl _ _) noE_kept)
                          (unfold execOp; simp only [List.map_toArray, List.map_cons, List.map_nil, e216, hc]; (try simp [go_sem, e216, hc]); try omega)
                      · as_aux_lemma =>
                          have e217 : a'.eval (.tmp 217) = .slice D9 (made x).fdb.length o9 := hI.eval (k := 1) (by decide) (hall ⟨1, .data⟩ (by simp) rfl)
                          refine .inl ⟨wanted_free rfl, ?_⟩
                          refine wp_value (w' := wx) ?_ (VS.step hI (d := 218) (by rw [ta0.size]; kernel_rfl) (by decide) rfl hI.world (Kept.refl _ _) noE_kept)
                          have re217 := e217
                          simp only [Act.eval, Array.getD_eq_getD_getElem?] at re217
                          (unfold execOp; simp only [List.map_toArray, List.map_cons, List.map_nil, e217, re217]; (try simp [go_sem, e217, re217]); try omega)
                      · as_aux_lemma =>
                          have e218 : a'.eval (.tmp 218) = .int .i64 ((made x).fdb.length : Int) := hI.eval (k := 2) (by decide) (hall ⟨2, .data⟩ (by simp) rfl)
                          refine .inl ⟨wanted_free rfl, ?_⟩
                          refine wp_value (w' := wx) ?_ (VS.step hI (d := 18) (by rw [ta0.size]; kernel_rfl) (by decide) rfl hI.world (Kept.refl _ _) noE_kept)
                          (unfold execOp; simp only [List.map_toArray, List.map_cons, List.map_nil, e218]; (try simp [go_sem, e218]); try omega)
                    · intro f p1 wx hf hI
                      have hwx := hI.world
                      have gn : p1.eval (.tmp 18) = .int .i64 ((made x).fdb.length : Int) := hI.eval (k := 3) (by decide) (hf 3 (by decide))
                      have g15 : p1.eval (.tmp 15) = .bool ch := (hI.old (by decide)).trans f15
                      have ga := ta0.keep hI (by decide)
                      clear hI hf
                      rw [hwx]
                      clear hwx
                      change Code.wp _ _ _ _ _
                      refine wp_seq ?_
                      by_cases hn : 0 < (made x).fdb.length
                      · have hn1 : (0 : Int) < ((made x).fdb.length : Int) := by omega
                        have hmod : ((a : Int).tmod 4) = (a : Int) % 4 := Int.tmod_eq_emod_of_nonneg (by omega)
                        by_cases hj : a % 4 = 1
                        · have hj1 : ((a : Int) % 4) = 1 := by omega
                          refine wp_region_plainG (by kernel_rfl) (Slots p1 ch30cD (valS (ch30cV (made x).fdb.length a) noE) (fun _ w => w = wf0)) (Slots.start rfl) ?_ ?_
                          · intro f a' wx hI i o ho hfi hall
                            have hi : i < 7 := (Array.getElem?_eq_some_iff.1 ho).1
                            rcases (by omega : i = 0 ∨ i = 1 ∨ i = 2 ∨ i = 3 ∨ i = 4 ∨ i = 5 ∨ i = 6) with rfl | rfl | rfl | rfl | rfl | rfl | rfl
                            all_goals
                              simp only [List.getElem?_toArray, List.getElem?_cons_zero, List.getElem?_cons_succ, Option.some.injEq] at ho
                              subst ho
                            · as_aux_lemma =>
                                have e18 : a'.eval (.tmp 18) = .int .i64 ((made x).fdb.length : Int) := (hI.old (by decide)).trans gn
                                refine .inl ⟨wanted_free rfl, ?_⟩
                                refine wp_value (w' := wx) ?_ (VS.step hI (d := 219) (by rw [ga.size]; kernel_rfl) (by decide) rfl hI.world (Kept.refl _ _) noE_kept)
                                (unfold execOp; simp only [List.map_toArray, List.map_cons, List.map_nil, e18]; (try simp [go_sem, e18]); try omega)
                            · as_aux_lemma =>
                                have e219 : a'.eval (.tmp 219) = .int .i64 ((made x).fdb.length : Int) := hI.eval (k := 0) (by decide) (hall ⟨0, .data⟩ (by simp) rfl)
                                refine .inl ⟨wanted_free rfl, ?_⟩
                                refine wp_value (w' := wx) ?_ (VS.step hI (d := 220) (by rw [ga.size]; kernel_rfl) (by decide) rfl hI.world (Kept.refl _ _) noE_kept)
                                (unfold execOp; simp only [List.map_toArray, List.map_cons, List.map_nil, e219, hn1]; (try simp [go_sem, e219, hn1]); try omega)
                            · as_aux_lemma =>
                                have e220 : a'.eval (.tmp 220) = .bool true := hI.eval (k := 1) (by decide) (hall ⟨1, .data⟩ (by simp) rfl)
                                refine .inl ⟨wanted_free rfl, ?_⟩
                                refine wp_value (w' := wx) ?_ (VS.step hI (d := 221) (by rw [ga.size]; kernel_rfl) (by decide) rfl hI.world (Kept.refl _ _) noE_kept)
                                (unfold execOp; simp only [List.map_toArray, List.map_cons, List.map_nil, e220]; (try simp [go_sem, e220]); try omega)
                            · as_aux_lemma =>
                                have e2 : a'.eval (.tmp 2) = .int .u8 (a : Int) := (hI.old (by decide)).trans ga.f2
                                have e221 : a'.eval (.tmp 221) = .bool true := hI.eval (k := 2) (by decide) (hall ⟨2, .guard⟩ (by simp) rfl)
                                refine .inl ⟨wanted_yes rfl (d := 221) rfl e221, ?_⟩
                                refine wp_value (w' := wx) ?_ (VS.step hI (d := 222) (by rw [ga.size]; kernel_rfl) (by decide) rfl hI.world (Kept.refl _ _) noE_kept)
                                (unfold execOp; simp only [List.map_toArray, List.map_cons, List.map_nil, e2]; (try simp [go_sem, e2]); try omega)
                            · as_aux_lemma =>
                                have e222 : a'.eval (.tmp 222) = .int .u8 (a : Int) := hI.eval (k := 3) (by decide) (hall ⟨3, .data⟩ (by simp) rfl)
                                have e221 : a'.eval (.tmp 221) = .bool true := hI.eval (k := 2) (by decide) (hall ⟨2, .guard⟩ (by simp) rfl)
                                refine .inl ⟨wanted_yes rfl (d := 221) rfl e221, ?_⟩
                                refine wp_value (w' := wx) ?_ (VS.step hI (d := 223) (by rw [ga.size]; kernel_rfl) (by decide) rfl hI.world (Kept.refl _ _) noE_kept)
                                (unfold execOp; simp only [List.map_toArray, List.map_cons, List.map_nil, e222, hmod]; (try simp [go_sem, e222, hmod]); try omega)
                            · as_aux_lemma =>
                                have e223 : a'.eval (.tmp 223) = .int .u8 ((a : Int) % 4) := hI.eval (k := 4) (by decide) (hall ⟨4, .data⟩ (by simp) rfl)
                                have e221 : a'.eval (.tmp 221) = .bool true := hI.eval (k := 2) (by decide) (hall ⟨2, .guard⟩ (by simp) rfl)
                                refine .inl ⟨wanted_yes rfl (d := 221) rfl e221, ?_⟩
                                refine wp_value (w' := wx) ?_ (VS.step hI (d := 224) (by rw [ga.size]; kernel_rfl) (by decide) rfl hI.world (Kept.refl _ _) noE_kept)
                                (unfold execOp; simp only [List.map_toArray, List.map_cons, List.map_nil, e223, hj1]; (try simp [go_sem, e223, hj1]); try omega)
                            · as_aux_lemma =>
                                have e221 : a'.eval (.tmp 221) = .bool true := hI.eval (k := 2) (by decide) (hall ⟨2, .data⟩ (by simp) rfl)
                                have e224 : a'.eval (.tmp 224) = .bool true := hI.eval (k := 5) (by decide) (hall ⟨5, .data⟩ (by simp) rfl)
                                refine .inl ⟨wanted_free rfl, ?_⟩
                                refine wp_value (w' := wx) ?_ (VS.step hI (d := 225) (by rw [ga.size]; kernel_rfl) (by decide) rfl hI.world (Kept.refl _ _) noE_kept)
                                (unfold execOp; simp only [List.map_toArray, List.map_cons, List.map_nil, e221, e224]; (try simp [go_sem, e221, e224]); try omega)
                          · intro f q1 wx hf hI
                            have hwx := hI.world
                            have gc : q1.eval (.tmp 225) = .bool true := hI.eval (k := 6) (by decide) (hf 6 (by decide))
                            have h15 : q1.eval (.tmp 15) = .bool ch := (hI.old (by decide)).trans g15
                            have hn16 : q1.eval (.tmp 18) = .int .i64 ((made x).fdb.length : Int) := (hI.old (by decide)).trans gn
                            have ha := ga.keep hI (by decide)
                            clear hI hf
                            rw [hwx]
                            clear hwx
                            change Code.wp _ _ _ _ _
                            refine wp_cond_true gc ?_
                            refine wp_seq ?_
                            have hx : ChAt (made x) wz.heap.size X9 a (.slice A9 (made x).ports.length k9) (.slice B9 (made x).vlans.length m9) (.slice C9 (made x).stat.length n9) (.slice D9 (made x).fdb.length o9) (a % 4) ch wf0 := by rw [hj]; exact CH.out.2
                            obtain rfl := hx.not
                            clear hx
                            obtain ⟨g, hA⟩ := CH.out.2.formF rfl hn
                            subst hA
                            obtain ⟨k, hk⟩ : ∃ k, a / 4 % (made x).fdb.length = k := ⟨_, rfl⟩
                            have hkn : k < (made x).fdb.length := by rw [← hk]; exact Nat.mod_lt _ hn
                            obtain ⟨p, hp⟩ : ∃ p, (made x).fdb[k]? = some p := ⟨_, List.getElem?_eq_getElem hkn⟩
                            have hu : p[7]? = some (.int .i64 (intAt p 7)) := int_at (fitsAll_get MOK.out.fdb hp) rfl
                            obtain ⟨hcell, hfroz⟩ := CH.out.2.rowF rfl hp hu
                            obtain ⟨hturn, hHg⟩ := CH.out.2.turnF rfl hp hu hj (lf := .i .i64) rfl ⟨_, rfl⟩ (v := .int .i64 (bits .xor .i64 (intAt p 7) 1)) (fun e => xor_one .i64 (by decide) _ (by injection e))
                            have hki : (k : Int) < ((made x).fdb.length : Int) := by omega
                            have hdiv : ((a : Int) / 4).tmod ((made x).fdb.length : Int) = (k : Int) := by rw [Int.tmod_eq_emod_of_nonneg (by omega), ← hk]; push_cast; rfl
                            have hquo : ((a : Int).tdiv 4) = (a : Int) / 4 := Int.tdiv_eq_ediv_of_nonneg (by omega)
                            have hnil : ((made x).fdb = []) = False := eq_false (fun e => by rw [e] at hn; exact absurd hn (by decide))
                            have hwq : IntKind.u8.wrap ((a : Int) / 4) = (a : Int) / 4 := by rw [IntKind.wrap_u8]; omega
                            have hwi : IntKind.i64.wrap ((a : Int) / 4) = (a : Int) / 4 := by rw [IntKind.wrap_i64]; omega
                            clear hk hkn hp hu hj hj1 hmod
                            refine wp_region_plainG (by kernel_rfl) (Slots q1 ch31D (valS (ch31V (made x).fdb.length a k) noE) (fun _ w => w = wf0)) (Slots.start rfl) ?_ ?_
                            · intro f a' wx hI i o ho hfi hall
                              have hi : i < 6 := (Array.getElem?_eq_some_iff.1 ho).1
                              rcases (by omega : i = 0 ∨ i = 1 ∨ i = 2 ∨ i = 3 ∨ i = 4 ∨ i = 5) with rfl | rfl | rfl | rfl | rfl | rfl
                              all_goals
                                simp only [List.getElem?_toArray, List.getElem?_cons_zero, List.getElem?_cons_succ, Option.some.injEq] at ho
                                subst ho
                              · as_aux_lemma =>
                                  have e2 : a'.eval (.tmp 2) = .int .u8 (a : Int) := (hI.old (by decide)).trans ha.f2
                                  refine .inl ⟨wanted_free rfl, ?_⟩
                                  refine wp_value (w' := wx) ?_ (VS.step hI (d := 226) (by rw [ha.size]; kernel_rfl) (by decide) rfl hI.world (Kept.refl _ _) noE_kept)
                                  (unfold execOp; simp only [List.map_toArray, List.map_cons, List.map_nil, e2]; (try simp [go_sem, e2]); try omega)
                              · as_aux_lemma =>
                                  have e226 : a'.eval (.tmp 226) = .int .u8 (a : Int) := hI.eval (k := 0) (by decide) (hall ⟨0, .data⟩ (by simp) rfl)
                                  refine .inl ⟨wanted_free rfl, ?_⟩
                                  refine wp_value (w' := wx) ?_ (VS.step hI (d := 227) (by rw [ha.size]; kernel_rfl) (by decide) rfl hI.world (Kept.refl _ _) noE_kept)
                                  (unfold execOp; simp only [List.map_toArray, List.map_cons, List.map_nil, e226, hquo, hwq]; (try simp [go_sem, e226, hquo, hwq]); try omega)
                              · as_aux_lemma =>
                                  have e227 : a'.eval (.tmp 227) = .int .u8 ((a : Int) / 4) := hI.eval (k := 1) (by decide) (hall ⟨1, .data⟩ (by simp) rfl)
                                  refine .inl ⟨wanted_free rfl, ?_⟩
                                  refine wp_value (w' := wx) ?_ (VS.step hI (d := 228) (by rw [ha.size]; kernel_rfl) (by decide) rfl hI.world (Kept.refl _ _) noE_kept)
                                  (unfold execOp; simp only [List.map_toArray, List.map_cons, List.map_nil, e227, hwi]; (try simp [go_sem, e227, hwi]); try omega)
                              · as_aux_lemma =>
                                  have e18 : a'.eval (.tmp 18) = .int .i64 ((made x).fdb.length : Int) := (hI.old (by decide)).trans hn16
                                  refine .inl ⟨wanted_free rfl, ?_⟩
                                  refine wp_value (w' := wx) ?_ (VS.step hI (d := 229) (by rw [ha.size]; kernel_rfl) (by decide) rfl hI.world (Kept.refl _ _) noE_kept)
                                  (unfold execOp; simp only [List.map_toArray, List.map_cons, List.map_nil, e18]; (try simp [go_sem, e18]); try omega)
                              · as_aux_lemma =>
                                  have e228 : a'.eval (.tmp 228) = .int .i64 ((a : Int) / 4) := hI.eval (k := 2) (by decide) (hall ⟨2, .data⟩ (by simp) rfl)
                                  have e229 : a'.eval (.tmp 229) = .int .i64 ((made x).fdb.length : Int) := hI.eval (k := 3) (by decide) (hall ⟨3, .data⟩ (by simp) rfl)
                                  refine .inl ⟨wanted_free rfl, ?_⟩
                                  refine wp_value (w' := wx) ?_ (VS.step hI (d := 230) (by rw [ha.size]; kernel_rfl) (by decide) rfl hI.world (Kept.refl _ _) noE_kept)
                                  (unfold execOp; simp only [List.map_toArray, List.map_cons, List.map_nil, e228, e229, hdiv, hnil]; (try simp [go_sem, e228, e229, hdiv, hnil]); try omega)
                              · as_aux_lemma =>
                                  have e230 : a'.eval (.tmp 230) = .int .i64 (k : Int) := hI.eval (k := 4) (by decide) (hall ⟨4, .data⟩ (by simp) rfl)
                                  refine .inl ⟨wanted_free rfl, ?_⟩
                                  refine wp_value (w' := wx) ?_ (VS.step hI (d := 19) (by rw [ha.size]; kernel_rfl) (by decide) rfl hI.world (Kept.refl _ _) noE_kept)
                                  (unfold execOp; simp only [List.map_toArray, List.map_cons, List.map_nil, e230]; (try simp [go_sem, e230]); try omega)
                            · intro f r1 wx hf hI
                              have hwx := hI.world
                              have hk17 : r1.eval (.tmp 19) = .int .i64 (k : Int) := hI.eval (k := 5) (by decide) (hf 5 (by decide))
                              have ia := ha.keep hI (by decide)
                              clear hI hf
                              rw [hwx]
                              clear hwx
                              change Code.wp _ _ _ _ _
                              refine wp_region_invG (by kernel_rfl) (by kernel_rfl) (Slots r1 ch32D (valS (ch32V X9 g (made x).fdb.length k o9 (.int .i64 (intAt p 7)) (.int .i64 (bits .xor .i64 (intAt p 7) 1))) noE) (fun f w => ScW wf0.drew 12 10 ⟨g, k * 9 + 7, none⟩ (.int .i64 (bits .xor .i64 (intAt p 7) 1)) f w)) (Slots.start (ScW.start _ _ _ _ _)) ?_ ?_
                              · intro f a' wx hI i o ho hfi hall
                                have hi : i < 14 := (Array.getElem?_eq_some_iff.1 ho).1
                                rcases (by omega : i = 0 ∨ i = 1 ∨ i = 2 ∨ i = 3 ∨ i = 4 ∨ i = 5 ∨ i = 6 ∨ i = 7 ∨ i = 8 ∨ i = 9 ∨ i = 10 ∨ i = 11 ∨ i = 12 ∨ i = 13) with rfl | rfl | rfl | rfl | rfl | rfl | rfl | rfl | rfl | rfl | rfl | rfl | rfl | rfl
                                all_goals
                                  simp only [List.getElem?_toArray, List.getElem?_cons_zero, List.getElem?_cons_succ, Option.some.injEq] at ho
                                  subst ho
                                · as_aux_lemma =>
                                    have e9 : a'.eval (.tmp 9) = .pointer (some ⟨X9, 0, none⟩) := (hI.old (by decide)).trans ia.f9
                                    refine .inl ⟨wanted_free rfl, ?_⟩
                                    refine wp_value (w' := wx) ?_ (VS.step hI (d := 231) (by rw [ia.size]; kernel_rfl) (by decide) rfl (hI.world.step (by decide)) (Kept.refl _ _) noE_kept)
                                    (unfold execOp; simp only [List.map_toArray, List.map_cons, List.map_nil, e9]; (try simp [go_sem, e9]); try omega)
                                · as_aux_lemma =>
                                    have e231 : a'.eval (.tmp 231) = .pointer (some ⟨X9, 9, none⟩) := hI.eval (k := 0) (by decide) (hall ⟨0, .data⟩ (by simp) rfl)
                                    refine .inl ⟨wanted_free rfl, ?_⟩
                                    have hwx := hI.world.before (by decide) hfi
                                    have hc : wx.cell? ⟨X9, 9, none⟩ = some (.slice (some ⟨g, 0, none⟩) (made x).fdb.length o9) := by rw [hwx]; exact hy
                                    refine wp_value (w' := wx) ?_ (VS.step hI (d := 232) (by rw [ia.size]; kernel_rfl) (by decide) rfl (hI.world.step (by decide)) (Kept.refl _ _) noE_kept)
                                    (unfold execOp; simp only [List.map_toArray, List.map_cons, List.map_nil, e231, hc]; (try simp [go_sem, e231, hc]); try omega)
                                · as_aux_lemma =>
                                    have e19 : a'.eval (.tmp 19) = .int .i64 (k : Int) := (hI.old (by decide)).trans hk17
                                    refine .inl ⟨wanted_free rfl, ?_⟩
                                    refine wp_value (w' := wx) ?_ (VS.step hI (d := 233) (by rw [ia.size]; kernel_rfl) (by decide) rfl (hI.world.step (by decide)) (Kept.refl _ _) noE_kept)
                                    (unfold execOp; simp only [List.map_toArray, List.map_cons, List.map_nil, e19]; (try simp [go_sem, e19]); try omega)
                                · as_aux_lemma =>
                                    have e9 : a'.eval (.tmp 9) = .pointer (some ⟨X9, 0, none⟩) := (hI.old (by decide)).trans ia.f9
                                    refine .inl ⟨wanted_free rfl, ?_⟩
                                    refine wp_value (w' := wx) ?_ (VS.step hI (d := 234) (by rw [ia.size]; kernel_rfl) (by decide) rfl (hI.world.step (by decide)) (Kept.refl _ _) noE_kept)
                                    (unfold execOp; simp only [List.map_toArray, List.map_cons, List.map_nil, e9]; (try simp [go_sem, e9]); try omega)
                                · as_aux_lemma =>
                                    have e234 : a'.eval (.tmp 234) = .pointer (some ⟨X9, 9, none⟩) := hI.eval (k := 3) (by decide) (hall ⟨3, .data⟩ (by simp) rfl)
                                    refine .inl ⟨wanted_free rfl, ?_⟩
                                    have hwx := hI.world.before (by decide) hfi
                                    have hc : wx.cell? ⟨X9, 9, none⟩ = some (.slice (some ⟨g, 0, none⟩) (made x).fdb.length o9) := by rw [hwx]; exact hy
                                    refine wp_value (w' := wx) ?_ (VS.step hI (d := 235) (by rw [ia.size]; kernel_rfl) (by decide) rfl (hI.world.step (by decide)) (Kept.refl _ _) noE_kept)
                                    (unfold execOp; simp only [List.map_toArray, List.map_cons, List.map_nil, e234, hc]; (try simp [go_sem, e234, hc]); try omega)
                                · as_aux_lemma =>
                                    have e19 : a'.eval (.tmp 19) = .int .i64 (k : Int) := (hI.old (by decide)).trans hk17
                                    refine .inl ⟨wanted_free rfl, ?_⟩
                                    refine wp_value (w' := wx) ?_ (VS.step hI (d := 236) (by rw [ia.size]; kernel_rfl) (by decide) rfl (hI.world.step (by decide)) (Kept.refl _ _) noE_kept)
                                    (unfold execOp; simp only [List.map_toArray, List.map_cons, List.map_nil, e19]; (try simp [go_sem, e19]); try omega)
                                · as_aux_lemma =>
                                    have e235 : a'.eval (.tmp 235) = .slice (some ⟨g, 0, none⟩) (made x).fdb.length o9 := hI.eval (k := 4) (by decide) (hall ⟨4, .data⟩ (by simp) rfl)
                                    have e236 : a'.eval (.tmp 236) = .int .i64 (k : Int) := hI.eval (k := 5) (by decide) (hall ⟨5, .data⟩ (by simp) rfl)
                                    refine .inl ⟨wanted_free rfl, ?_⟩
                                    refine wp_value (w' := wx) ?_ (VS.step hI (d := 237) (by rw [ia.size]; kernel_rfl) (by decide) rfl (hI.world.step (by decide)) (Kept.refl _ _) noE_kept)
                                    (unfold execOp; simp only [List.map_toArray, List.map_cons, List.map_nil, e235, e236, hki]; (try simp [go_sem, e235, e236, hki]); try omega)
                                · as_aux_lemma =>
                                    have e237 : a'.eval (.tmp 237) = .pointer (some ⟨g, k * 9, none⟩) := hI.eval (k := 6) (by decide) (hall ⟨6, .data⟩ (by simp) rfl)
                                    refine .inl ⟨wanted_free rfl, ?_⟩
                                    refine wp_value (w' := wx) ?_ (VS.step hI (d := 238) (by rw [ia.size]; kernel_rfl) (by decide) rfl (hI.world.step (by decide)) (Kept.refl _ _) noE_kept)
                                    (unfold execOp; simp only [List.map_toArray, List.map_cons, List.map_nil, e237]; (try simp [go_sem, e237]); try omega)
                                · as_aux_lemma =>
                                    have e238 : a'.eval (.tmp 238) = .pointer (some ⟨g, k * 9 + 7, none⟩) := hI.eval (k := 7) (by decide) (hall ⟨7, .data⟩ (by simp) rfl)
                                    refine .inl ⟨wanted_free rfl, ?_⟩
                                    have hwx := hI.world.before (by decide) hfi
                                    have hc : wx.cell? ⟨g, k * 9 + 7, none⟩ = some (.int .i64 (intAt p 7)) := by rw [hwx]; exact hcell
                                    refine wp_value (w' := wx) ?_ (VS.step hI (d := 239) (by rw [ia.size]; kernel_rfl) (by decide) rfl (hI.world.step (by decide)) (Kept.refl _ _) noE_kept)
                                    (unfold execOp; simp only [List.map_toArray, List.map_cons, List.map_nil, e238, hc]; (try simp [go_sem, e238, hc]); try omega)
                                · as_aux_lemma =>
                                    have e239 : a'.eval (.tmp 239) = .int .i64 (intAt p 7) := hI.eval (k := 8) (by decide) (hall ⟨8, .data⟩ (by simp) rfl)
                                    refine .inl ⟨wanted_free rfl, ?_⟩
                                    refine wp_value (w' := wx) ?_ (VS.step hI (d := 240) (by rw [ia.size]; kernel_rfl) (by decide) rfl (hI.world.step (by decide)) (Kept.refl _ _) noE_kept)
                                    (unfold execOp; simp only [List.map_toArray, List.map_cons, List.map_nil, e239]; (try simp [go_sem, e239]); try omega)
                                · as_aux_lemma =>
                                    have e232 : a'.eval (.tmp 232) = .slice (some ⟨g, 0, none⟩) (made x).fdb.length o9 := hI.eval (k := 1) (by decide) (hall ⟨1, .data⟩ (by simp) rfl)
                                    have e233 : a'.eval (.tmp 233) = .int .i64 (k : Int) := hI.eval (k := 2) (by decide) (hall ⟨2, .data⟩ (by simp) rfl)
                                    refine .inl ⟨wanted_free rfl, ?_⟩
                                    refine wp_value (w' := wx) ?_ (VS.step hI (d := 241) (by rw [ia.size]; kernel_rfl) (by decide) rfl (hI.world.step (by decide)) (Kept.refl _ _) noE_kept)
                                    (unfold execOp; simp only [List.map_toArray, List.map_cons, List.map_nil, e232, e233, hki]; (try simp [go_sem, e232, e233, hki]); try omega)
                                · as_aux_lemma =>
                                    have e241 : a'.eval (.tmp 241) = .pointer (some ⟨g, k * 9, none⟩) := hI.eval (k := 10) (by decide) (hall ⟨10, .data⟩ (by simp) rfl)
                                    refine .inl ⟨wanted_free rfl, ?_⟩
                                    refine wp_value (w' := wx) ?_ (VS.step hI (d := 242) (by rw [ia.size]; kernel_rfl) (by decide) rfl (hI.world.step (by decide)) (Kept.refl _ _) noE_kept)
                                    (unfold execOp; simp only [List.map_toArray, List.map_cons, List.map_nil, e241]; (try simp [go_sem, e241]); try omega)
                                · as_aux_lemma =>
                                    have e242 : a'.eval (.tmp 242) = .pointer (some ⟨g, k * 9 + 7, none⟩) := hI.eval (k := 11) (by decide) (hall ⟨11, .data⟩ (by simp) rfl)
                                    have e240 : a'.eval (.tmp 240) = .int .i64 (bits .xor .i64 (intAt p 7) 1) := hI.eval (k := 9) (by decide) (hall ⟨9, .data⟩ (by simp) rfl)
                                    refine .inl ⟨wanted_free rfl, ?_⟩
                                    have hwx := hI.world.old hfi
                                    have hc : wx.cell? ⟨g, k * 9 + 7, none⟩ = some (.int .i64 (intAt p 7)) := by rw [hwx]; exact hcell
                                    have hz : wx.frozen? ⟨g, k * 9 + 7, none⟩ = false := by rw [hwx]; exact hfroz
                                    refine wp_skip (w' := wx.setCell ⟨g, k * 9 + 7, none⟩ (.int .i64 (bits .xor .i64 (intAt p 7) 1))) ?_ (hI.pass (by decide) (hI.world.store hfi (fun j hj => ?_)) (fun _ _ _ _ h => h))
                                    · (unfold execOp; simp only [List.map_toArray, List.map_cons, List.map_nil, e242, e240, hc, hz]; (try simp [go_sem, e242, e240, hc, hz]); try omega)
                                    · rcases (by omega : j = 0 ∨ j = 1 ∨ j = 2 ∨ j = 3 ∨ j = 4 ∨ j = 5 ∨ j = 6 ∨ j = 7 ∨ j = 8 ∨ j = 9) with rfl | rfl | rfl | rfl | rfl | rfl | rfl | rfl | rfl | rfl <;> exact hall ⟨_, .phase⟩ (by simp) rfl
                                · as_aux_lemma =>
                                    refine .inl ⟨wanted_free rfl, ?_⟩
                                    refine wp_value (w' := wx) ?_ (VS.step hI (d := 15) (by rw [ia.size]; kernel_rfl) (by decide) rfl (hI.world.step (by decide)) (Kept.refl _ _) noE_kept)
                                    (unfold execOp; simp only [List.map_toArray, List.map_cons, List.map_nil]; (try simp [go_sem]); try omega)
                              · intro f s1 wx hf hI
                                have hwx := hI.world.new (hf 12 (by decide))
                                have j15 : s1.eval (.tmp 15) = .bool true := hI.eval (k := 13) (by decide) (hf 13 (by decide))
                                have ja := ia.keep hI (by decide)
                                clear hI hf
                                rw [hwx]
                                clear hwx
                                exact ⟨rfl, ja, true, j15, (CH.out.1.drew).setCell (fun h => by have h2 : g < wz.heap.size := h; omega) _, hturn.kept (Kept.refl _ _).drew⟩
                        · have hj1 : ¬ ((a : Int) % 4) = 1 := by omega
                          refine wp_region_plainG (by kernel_rfl) (Slots p1 ch30bD (valS (ch30bV (made x).fdb.length a) noE) (fun _ w => w = wf0)) (Slots.start rfl) ?_ ?_
                          · intro f a' wx hI i o ho hfi hall
                            have hi : i < 7 := (Array.getElem?_eq_some_iff.1 ho).1
                            rcases (by omega : i = 0 ∨ i = 1 ∨ i = 2 ∨ i = 3 ∨ i = 4 ∨ i = 5 ∨ i = 6) with rfl | rfl | rfl | rfl | rfl | rfl | rfl
                            all_goals
                              simp only [List.getElem?_toArray, List.getElem?_cons_zero, List.getElem?_cons_succ, Option.some.injEq] at ho
                              subst ho
                            · as_aux_lemma =>
                                have e18 : a'.eval (.tmp 18) = .int .i64 ((made x).fdb.length : Int) := (hI.old (by decide)).trans gn
                                refine .inl ⟨wanted_free rfl, ?_⟩
                                refine wp_value (w' := wx) ?_ (VS.step hI (d := 219) (by rw [ga.size]; kernel_rfl) (by decide) rfl hI.world (Kept.refl _ _) noE_kept)
                                (unfold execOp; simp only [List.map_toArray, List.map_cons, List.map_nil, e18]; (try simp [go_sem, e18]); try omega)
                            · as_aux_lemma =>
                                have e219 : a'.eval (.tmp 219) = .int .i64 ((made x).fdb.length : Int) := hI.eval (k := 0) (by decide) (hall ⟨0, .data⟩ (by simp) rfl)
                                refine .inl ⟨wanted_free rfl, ?_⟩
                                refine wp_value (w' := wx) ?_ (VS.step hI (d := 220) (by rw [ga.size]; kernel_rfl) (by decide) rfl hI.world (Kept.refl _ _) noE_kept)
                                (unfold execOp; simp only [List.map_toArray, List.map_cons, List.map_nil, e219, hn1]; (try simp [go_sem, e219, hn1]); try omega)
                            · as_aux_lemma =>
                                have e220 : a'.eval (.tmp 220) = .bool true := hI.eval (k := 1) (by decide) (hall ⟨1, .data⟩ (by simp) rfl)
                                refine .inl ⟨wanted_free rfl, ?_⟩
                                refine wp_value (w' := wx) ?_ (VS.step hI (d := 221) (by rw [ga.size]; kernel_rfl) (by decide) rfl hI.world (Kept.refl _ _) noE_kept)
                                (unfold execOp; simp only [List.map_toArray, List.map_cons, List.map_nil, e220]; (try simp [go_sem, e220]); try omega)
                            · as_aux_lemma =>
                                have e2 : a'.eval (.tmp 2) = .int .u8 (a : Int) := (hI.old (by decide)).trans ga.f2
                                have e221 : a'.eval (.tmp 221) = .bool true := hI.eval (k := 2) (by decide) (hall ⟨2, .guard⟩ (by simp) rfl)
                                refine .inl ⟨wanted_yes rfl (d := 221) rfl e221, ?_⟩
                                refine wp_value (w' := wx) ?_ (VS.step hI (d := 222) (by rw [ga.size]; kernel_rfl) (by decide) rfl hI.world (Kept.refl _ _) noE_kept)
                                (unfold execOp; simp only [List.map_toArray, List.map_cons, List.map_nil, e2]; (try simp [go_sem, e2]); try omega)
                            · as_aux_lemma =>
                                have e222 : a'.eval (.tmp 222) = .int .u8 (a : Int) := hI.eval (k := 3) (by decide) (hall ⟨3, .data⟩ (by simp) rfl)
                                have e221 : a'.eval (.tmp 221) = .bool true := hI.eval (k := 2) (by decide) (hall ⟨2, .guard⟩ (by simp) rfl)
                                refine .inl ⟨wanted_yes rfl (d := 221) rfl e221, ?_⟩
                                refine wp_value (w' := wx) ?_ (VS.step hI (d := 223) (by rw [ga.size]; kernel_rfl) (by decide) rfl hI.world (Kept.refl _ _) noE_kept)
                                (unfold execOp; simp only [List.map_toArray, List.map_cons, List.map_nil, e222, hmod]; (try simp [go_sem, e222, hmod]); try omega)
                            · as_aux_lemma =>
                                have e223 : a'.eval (.tmp 223) = .int .u8 ((a : Int) % 4) := hI.eval (k := 4) (by decide) (hall ⟨4, .data⟩ (by simp) rfl)
                                have e221 : a'.eval (.tmp 221) = .bool true := hI.eval (k := 2) (by decide) (hall ⟨2, .guard⟩ (by simp) rfl)
                                refine .inl ⟨wanted_yes rfl (d := 221) rfl e221, ?_⟩
                                refine wp_value (w' := wx) ?_ (VS.step hI (d := 224) (by rw [ga.size]; kernel_rfl) (by decide) rfl hI.world (Kept.refl _ _) noE_kept)
                                (unfold execOp; simp only [List.map_toArray, List.map_cons, List.map_nil, e223, hj1]; (try simp [go_sem, e223, hj1]); try omega)
                            · as_aux_lemma =>
                                have e221 : a'.eval (.tmp 221) = .bool true := hI.eval (k := 2) (by decide) (hall ⟨2, .data⟩ (by simp) rfl)
                                have e224 : a'.eval (.tmp 224) = .bool false := hI.eval (k := 5) (by decide) (hall ⟨5, .data⟩ (by simp) rfl)
                                refine .inl ⟨wanted_free rfl, ?_⟩
                                refine wp_value (w' := wx) ?_ (VS.step hI (d := 225) (by rw [ga.size]; kernel_rfl) (by decide) rfl hI.world (Kept.refl _ _) noE_kept)
                                (unfold execOp; simp only [List.map_toArray, List.map_cons, List.map_nil, e221, e224]; (try simp [go_sem, e221, e224]); try omega)
                          · intro f q1 wx hf hI
                            have hwx := hI.world
                            have gc : q1.eval (.tmp 225) = .bool false := hI.eval (k := 6) (by decide) (hf 6 (by decide))
                            have h15 : q1.eval (.tmp 15) = .bool ch := (hI.old (by decide)).trans g15
                            have hn16 : q1.eval (.tmp 18) = .int .i64 ((made x).fdb.length : Int) := (hI.old (by decide)).trans gn
                            have ha := ga.keep hI (by decide)
                            clear hI hf
                            rw [hwx]
                            clear hwx
                            change Code.wp _ _ _ _ _
                            refine wp_cond_false gc ?_
                            exact Go.wp_skip ⟨rfl, ha, ch, h15, CH.out.1, CH.out.2.up⟩
                      · have hn0 : ((made x).fdb.length : Int) = 0 := by omega
                        refine wp_region_plainG (by kernel_rfl) (Slots p1 ch30aD (valS (ch30aV (made x).fdb.length a) noE) (fun _ w => w = wf0)) (Slots.start rfl) ?_ ?_
                        · intro f a' wx hI i o ho hfi hall
                          have hi : i < 7 := (Array.getElem?_eq_some_iff.1 ho).1
                          rcases (by omega : i = 0 ∨ i = 1 ∨ i = 2 ∨ i = 3 ∨ i = 4 ∨ i = 5 ∨ i = 6) with rfl | rfl | rfl | rfl | rfl | rfl | rfl
                          all_goals
                            simp only [List.getElem?_toArray, List.getElem?_cons_zero, List.getElem?_cons_succ, Option.some.injEq] at ho
                            subst ho
                          · as_aux_lemma =>
                              have e18 : a'.eval (.tmp 18) = .int .i64 ((made x).fdb.length : Int) := (hI.old (by decide)).trans gn
                              refine .inl ⟨wanted_free rfl, ?_⟩
                              refine wp_value (w' := wx) ?_ (VS.step hI (d := 219) (by rw [ga.size]; kernel_rfl) (by decide) rfl hI.world (Kept.refl _ _) noE_kept)
                              (unfold execOp; simp only [List.map_toArray, List.map_cons, List.map_nil, e18]; (try simp [go_sem, e18]); try omega)
                          · as_aux_lemma =>
                              have e219 : a'.eval (.tmp 219) = .int .i64 ((made x).fdb.length : Int) := hI.eval (k := 0) (by decide) (hall ⟨0, .data⟩ (by simp) rfl)
                              refine .inl ⟨wanted_free rfl, ?_⟩
                              refine wp_value (w' := wx) ?_ (VS.step hI (d := 220) (by rw [ga.size]; kernel_rfl) (by decide) rfl hI.world (Kept.refl _ _) noE_kept)
                              (unfold execOp; simp only [List.map_toArray, List.map_cons, List.map_nil, e219, hn0]; (try simp [go_sem, e219, hn0]); try omega)
                          · as_aux_lemma =>
                              have e220 : a'.eval (.tmp 220) = .bool false := hI.eval (k := 1) (by decide) (hall ⟨1, .data⟩ (by simp) rfl)
                              refine .inl ⟨wanted_free rfl, ?_⟩
                              refine wp_value (w' := wx) ?_ (VS.step hI (d := 221) (by rw [ga.size]; kernel_rfl) (by decide) rfl hI.world (Kept.refl _ _) noE_kept)
                              (unfold execOp; simp only [List.map_toArray, List.map_cons, List.map_nil, e220]; (try simp [go_sem, e220]); try omega)
                          · as_aux_lemma =>
                              have e221 : a'.eval (.tmp 221) = .bool false := hI.eval (k := 2) (by decide) (hall ⟨2, .guard⟩ (by simp) rfl)
                              exact .inr ⟨wanted_no rfl (d := 221) rfl e221 (by decide), VS.step hI (d := 222) (by rw [ga.size]; kernel_rfl) (by decide) rfl hI.world (Kept.refl _ _) noE_kept⟩
                          · as_aux_lemma =>
                              have e221 : a'.eval (.tmp 221) = .bool false := hI.eval (k := 2) (by decide) (hall ⟨2, .guard⟩ (by simp) rfl)
                              exact .inr ⟨wanted_no rfl (d := 221) rfl e221 (by decide), VS.step hI (d := 223) (by rw [ga.size]; kernel_rfl) (by decide) rfl hI.world (Kept.refl _ _) noE_kept⟩
                          · as_aux_lemma =>
                              have e221 : a'.eval (.tmp 221) = .bool false := hI.eval (k := 2) (by decide) (hall ⟨2, .guard⟩ (by simp) rfl)
                              exact .inr ⟨wanted_no rfl (d := 221) rfl e221 (by decide), VS.step hI (d := 224) (by rw [ga.size]; kernel_rfl) (by decide) rfl hI.world (Kept.refl _ _) noE_kept⟩
                          · as_aux_lemma =>
                              have e221 : a'.eval (.tmp 221) = .bool false := hI.eval (k := 2) (by decide) (hall ⟨2, .data⟩ (by simp) rfl)
                              have e224 : a'.eval (.tmp 224) = undef := hI.eval (k := 5) (by decide) (hall ⟨5, .data⟩ (by simp) rfl)
                              refine .inl ⟨wanted_free rfl, ?_⟩
                              refine wp_value (w' := wx) ?_ (VS.step hI (d := 225) (by rw [ga.size]; kernel_rfl) (by decide) rfl hI.world (Kept.refl _ _) noE_kept)
                              (unfold execOp; simp only [List.map_toArray, List.map_cons, List.map_nil, e221, e224]; (try simp [go_sem, e221, e224]); try omega)
                        · intro f q1 wx hf hI
                          have hwx := hI.world
                          have gc : q1.eval (.tmp 225) = .bool false := hI.eval (k := 6) (by decide) (hf 6 (by decide))
                          have h15 : q1.eval (.tmp 15) = .bool ch := (hI.old (by decide)).trans g15
                          have hn16 : q1.eval (.tmp 18) = .int .i64 ((made x).fdb.length : Int) := (hI.old (by decide)).trans gn
                          have ha := ga.keep hI (by decide)
                          clear hI hf
                          rw [hwx]
                          clear hwx
                          change Code.wp _ _ _ _ _
                          refine wp_cond_false gc ?_
                          exact Go.wp_skip ⟨rfl, ha, ch, h15, CH.out.1, CH.out.2.up⟩
                  · clear f15 ta0 CH ch
                    rintro e t1 wf1 ⟨rfl, ta1, ch, f15, hk, hc⟩
                    have CH := Lib.hid (show Kept noB wz wf1 ∧ ChAt (made x) wz.heap.size X9 a (.slice A9 (made x).ports.length k9) (.slice B9 (made x).vlans.length m9) (.slice C9 (made x).stat.length n9) (.slice D9 (made x).fdb.length o9) 2 ch wf1 from ⟨hk, hc⟩)
                    clear hk hc
                    change Code.wp _ _ _ _ _
                    refine wp_seq ?_
                    refine wp_mono (Q := (fun e b w => e = .normal ∧ FA b a B X7 X9 ∧ ∃ ch, b.eval (.tmp 15) = .bool ch ∧ Kept noB wz w ∧ ChAt (made x) wz.heap.size X9 a (.slice A9 (made x).ports.length k9) (.slice B9 (made x).vlans.length m9) (.slice C9 (made x).stat.length n9) (.slice D9 (made x).fdb.length o9) 3 ch w)) ?_ ?_
                    · have hy := CH.out.2.cellV
                      have hnl : (made x).vlans.length ≤ 1000 := MOK.out.l2
                      refine wp_seq ?_
                      refine wp_region_plainG (by kernel_rfl) (Slots t1 ch33D (valS (ch33V X9 (made x).vlans.length m9 B9) noE) (fun _ w => w = wf1)) (Slots.start rfl) ?_ ?_
                      · intro f a' wx hI i o ho hfi hall
                        have hi : i < 4 := (Array.getElem?_eq_some_iff.1 ho).1
                        rcases (by omega : i = 0 ∨ i = 1 ∨ i = 2 ∨ i = 3) with rfl | rfl | rfl | rfl
                        all_goals
                          simp only [List.getElem?_toArray, List.getElem?_cons_zero, List.getElem?_cons_succ, Option.some.injEq] at ho
                          subst ho
                        · as_aux_lemma =>
                            have e9 : a'.eval (.tmp 9) = .pointer (some ⟨X9, 0, none⟩) := (hI.old (by decide)).trans ta1.f9
                            refine .inl ⟨wanted_free rfl, ?_⟩
                            refine wp_value (w' := wx) ?_ (VS.step hI (d := 243) (by rw [ta1.size]; kernel_rfl) (by decide) rfl hI.world (Kept.refl _ _) noE_kept)
                            (unfold execOp; simp only [List.map_toArray, List.map_cons, List.map_nil, e9]; (try simp [go_sem, e9]); try omega)
                        · as_aux_lemma =>
                            have e243 : a'.eval (.tmp 243) = .pointer (some ⟨X9, 7, none⟩) := hI.eval (k := 0) (by decide) (hall ⟨0, .data⟩ (by simp) rfl)
                            refine .inl ⟨wanted_free rfl, ?_⟩
                            have hwx := hI.world
                            have hc : wx.cell? ⟨X9, 7, none⟩ = some (.slice B9 (made x).vlans.length m9) := by rw [hwx]; exact hy
                            refine wp_value (w' := wx) ?_ (VS.step hI (d := 244) (by rw [ta1.size]; kernel_rfl) (by decide) rfl hI.world (Kept.refl _ _) noE_kept)
                            (unfold execOp; simp only [List.map_toArray, List.map_cons, List.map_nil, e243, hc]; (try simp [go_sem, e243, hc]); try omega)
                        · as_aux_lemma =>
                            have e244 : a'.eval (.tmp 244) = .slice B9 (made x).vlans.length m9 := hI.eval (k := 1) (by decide) (hall ⟨1, .data⟩ (by simp) rfl)
                            refine .inl ⟨wanted_free rfl, ?_⟩
                            refine wp_value (w' := wx) ?_ (VS.step hI (d := 245) (by rw [ta1.size]; kernel_rfl) (by decide) rfl hI.world (Kept.refl _ _) noE_kept)
                            have re244 := e244
                            simp only [Act.eval, Array.getD_eq_getD_getElem?] at re244
                            (unfold execOp; simp only [List.map_toArray, List.map_cons, List.map_nil, e244, re244]; (try simp [go_sem, e244, re244]); try omega)
                        · as_aux_lemma =>
                            have e245 : a'.eval (.tmp 245) = .int .i64 ((made x).vlans.length : Int) := hI.eval (k := 2) (by decide) (hall ⟨2, .data⟩ (by simp) rfl)
                            refine .inl ⟨wanted_free rfl, ?_⟩
                            refine wp_value (w' := wx) ?_ (VS.step hI (d := 20) (by rw [ta1.size]; kernel_rfl) (by decide) rfl hI.world (Kept.refl _ _) noE_kept)
                            (unfold execOp; simp only [List.map_toArray, List.map_cons, List.map_nil, e245]; (try simp [go_sem, e245]); try omega)
                      · intro f p2 wx hf hI
                        have hwx := hI.world
                        have gn : p2.eval (.tmp 20) = .int .i64 ((made x).vlans.length : Int) := hI.eval (k := 3) (by decide) (hf 3 (by decide))
                        have g15 : p2.eval (.tmp 15) = .bool ch := (hI.old (by decide)).trans f15
                        have ga := ta1.keep hI (by decide)
                        clear hI hf
                        rw [hwx]
                        clear hwx
                        change Code.wp _ _ _ _ _
                        refine wp_seq ?_
                        by_cases hn : 0 < (made x).vlans.length
                        · have hn1 : (0 : Int) < ((made x).vlans.length : Int) := by omega
                          have hmod : ((a : Int).tmod 4) = (a : Int) % 4 := Int.tmod_eq_emod_of_nonneg (by omega)
                          by_cases hj : a % 4 = 2
                          · have hj1 : ((a : Int) % 4) = 2 := by omega
                            refine wp_region_plainG (by kernel_rfl) (Slots p2 ch34cD (valS (ch34cV (made x).vlans.length a) noE) (fun _ w => w = wf1)) (Slots.start rfl) ?_ ?_
                            · intro f a' wx hI i o ho hfi hall
                              have hi : i < 7 := (Array.getElem?_eq_some_iff.1 ho).1
                              rcases (by omega : i = 0 ∨ i = 1 ∨ i = 2 ∨ i = 3 ∨ i = 4 ∨ i = 5 ∨ i = 6) with rfl | rfl | rfl | rfl | rfl | rfl | rfl
                              all_goals
                                simp only [List.getElem?_toArray, List.getElem?_cons_zero, List.getElem?_cons_succ, Option.some.injEq] at ho
                                subst ho
                              · as_aux_lemma =>
                                  have e20 : a'.eval (.tmp 20) = .int .i64 ((made x).vlans.length : Int) := (hI.old (by decide)).trans gn
                                  refine .inl ⟨wanted_free rfl, ?_⟩
                                  refine wp_value (w' := wx) ?_ (VS.step hI (d := 246) (by rw [ga.size]; kernel_rfl) (by decide) rfl hI.world (Kept.refl _ _) noE_kept)
                                  (unfold execOp; simp only [List.map_toArray, List.map_cons, List.map_nil, e20]; (try simp [go_sem, e20]); try omega)
                              · as_aux_lemma =>
                                  have e246 : a'.eval (.tmp 246) = .int .i64 ((made x).vlans.length : Int) := hI.eval (k := 0) (by decide) (hall ⟨0, .data⟩ (by simp) rfl)
                                  refine .inl ⟨wanted_free rfl, ?_⟩
                                  refine wp_value (w' := wx) ?_ (VS.step hI (d := 247) (by rw [ga.size]; kernel_rfl) (by decide) rfl hI.world (Kept.refl _ _) noE_kept)
                                  (unfold execOp; simp only [List.map_toArray, List.map_cons, List.map_nil, e246, hn1]; (try simp [go_sem, e246, hn1]); try omega)
                              · as_aux_lemma =>
                                  have e247 : a'.eval (.tmp 247) = .bool true := hI.eval (k := 1) (by decide) (hall ⟨1, .data⟩ (by simp) rfl)
                                  refine .inl ⟨wanted_free rfl, ?_⟩
                                  refine wp_value (w' := wx) ?_ (VS.step hI (d := 248) (by rw [ga.size]; kernel_rfl) (by decide) rfl hI.world (Kept.refl _ _) noE_kept)
                                  (unfold execOp; simp only [List.map_toArray, List.map_cons, List.map_nil, e247]; (try simp [go_sem, e247]); try omega)
                              · as_aux_lemma =>
                                  have e2 : a'.eval (.tmp 2) = .int .u8 (a : Int) := (hI.old (by decide)).trans ga.f2
                                  have e248 : a'.eval (.tmp 248) = .bool true := hI.eval (k := 2) (by decide) (hall ⟨2, .guard⟩ (by simp) rfl)
                                  refine .inl ⟨wanted_yes rfl (d := 248) rfl e248, ?_⟩
                                  refine wp_value (w' := wx) ?_ (VS.step hI (d := 249) (by rw [ga.size]; kernel_rfl) (by decide) rfl hI.world (Kept.refl _ _) noE_kept)
                                  (unfold execOp; simp only [List.map_toArray, List.map_cons, List.map_nil, e2]; (try simp [go_sem, e2]); try omega)
                              · as_aux_lemma =>
                                  have e249 : a'.eval (.tmp 249) = .int .u8 (a : Int) := hI.eval (k := 3) (by decide) (hall ⟨3, .data⟩ (by simp) rfl)
                                  have e248 : a'.eval (.tmp 248) = .bool true := hI.eval (k := 2) (by decide) (hall ⟨2, .guard⟩ (by simp) rfl)
                                  refine .inl ⟨wanted_yes rfl (d := 248) rfl e248, ?_⟩
                                  refine wp_value (w' := wx) ?_ (VS.step hI (d := 250) (by rw [ga.size]; kernel_rfl) (by decide) rfl hI.world (Kept.refl _ _) noE_kept)
                                  (unfold execOp; simp only [List.map_toArray, List.map_cons, List.map_nil, e249, hmod]; (try simp [go_sem, e249, hmod]); try omega)
                              · as_aux_lemma =>
                                  have e250 : a'.eval (.tmp 250) = .int .u8 ((a : Int) % 4) := hI.eval (k := 4) (by decide) (hall ⟨4, .data⟩ (by simp) rfl)
                                  have e248 : a'.eval (.tmp 248) = .bool true := hI.eval (k := 2) (by decide) (hall ⟨2, .guard⟩ (by simp) rfl)
                                  refine .inl ⟨wanted_yes rfl (d := 248) rfl e248, ?_⟩
                                  refine wp_value (w' := wx) ?_ (VS.step hI (d := 251) (by rw [ga.size]; kernel_rfl) (by decide) rfl hI.world (Kept.refl _ _) noE_kept)
                                  (unfold execOp; simp only [List.map_toArray, List.map_cons, List.map_nil, e250, hj1]; (try simp [go_sem, e250, hj1]); try omega)
                              · as_aux_lemma =>
                                  have e248 : a'.eval (.tmp 248) = .bool true := hI.eval (k := 2) (by decide) (hall ⟨2, .data⟩ (by simp) rfl)
                                  have e251 : a'.eval (.tmp 251) = .bool true := hI.eval (k := 5) (by decide) (hall ⟨5, .data⟩ (by simp) rfl)
                                  refine .inl ⟨wanted_free rfl, ?_⟩
                                  refine wp_value (w' := wx) ?_ (VS.step hI (d := 252) (by rw [ga.size]; kernel_rfl) (by decide) rfl hI.world (Kept.refl _ _) noE_kept)
                                  (unfold execOp; simp only [List.map_toArray, List.map_cons, List.map_nil, e248, e251]; (try simp [go_sem, e248, e251]); try omega)
                            · intro f q2 wx hf hI
                              have hwx := hI.world
                              have gc : q2.eval (.tmp 252) = .bool true := hI.eval (k := 6) (by decide) (hf 6 (by decide))
                              have h15 : q2.eval (.tmp 15) = .bool ch := (hI.old (by decide)).trans g15
                              have hn16 : q2.eval (.tmp 20) = .int .i64 ((made x).vlans.length : Int) := (hI.old (by decide)).trans gn
                              have ha := ga.keep hI (by decide)
                              clear hI hf
                              rw [hwx]
                              clear hwx
                              change Code.wp _ _ _ _ _
                              refine wp_cond_true gc ?_
                              refine wp_seq ?_
                              have hx : ChAt (made x) wz.heap.size X9 a (.slice A9 (made x).ports.length k9) (.slice B9 (made x).vlans.length m9) (.slice C9 (made x).stat.length n9) (.slice D9 (made x).fdb.length o9) (a % 4) ch wf1 := by rw [hj]; exact CH.out.2
                              obtain rfl := hx.not
                              clear hx
                              obtain ⟨g, hA⟩ := CH.out.2.formV rfl hn
                              subst hA
                              obtain ⟨k, hk⟩ : ∃ k, a / 4 % (made x).vlans.length = k := ⟨_, rfl⟩
                              have hkn : k < (made x).vlans.length := by rw [← hk]; exact Nat.mod_lt _ hn
                              obtain ⟨p, hp⟩ : ∃ p, (made x).vlans[k]? = some p := ⟨_, List.getElem?_eq_getElem hkn⟩
                              have hu : p[0]? = some (.int .u16 (intAt p 0)) := int_at (fitsAll_get MOK.out.vlans hp) rfl
                              obtain ⟨hcell, hfroz⟩ := CH.out.2.rowV rfl hp hu
                              obtain ⟨hturn, hHg⟩ := CH.out.2.turnV rfl hp hu hj (lf := .i .u16) rfl ⟨_, rfl⟩ (v := .int .u16 (bits .xor .u16 (intAt p 0) 1)) (fun e => xor_one .u16 (by decide) _ (by injection e))
                              have hki : (k : Int) < ((made x).vlans.length : Int) := by omega
                              have hdiv : ((a : Int) / 4).tmod ((made x).vlans.length : Int) = (k : Int) := by rw [Int.tmod_eq_emod_of_nonneg (by omega), ← hk]; push_cast; rfl
                              have hquo : ((a : Int).tdiv 4) = (a : Int) / 4 := Int.tdiv_eq_ediv_of_nonneg (by omega)
                              have hnil : ((made x).vlans = []) = False := eq_false (fun e => by rw [e] at hn; exact absurd hn (by decide))
                              have hwq : IntKind.u8.wrap ((a : Int) / 4) = (a : Int) / 4 := by rw [IntKind.wrap_u8]; omega
                              have hwi : IntKind.i64.wrap ((a : Int) / 4) = (a : Int) / 4 := by rw [IntKind.wrap_i64]; omega
                              clear hk hkn hp hu hj hj1 hmod
                              refine wp_region_plainG (by kernel_rfl) (Slots q2 ch35D (valS (ch35V (made x).vlans.length a k) noE) (fun _ w => w = wf1)) (Slots.start rfl) ?_ ?_
                              · intro f a' wx hI i o ho hfi hall
                                have hi : i < 6 := (Array.getElem?_eq_some_iff.1 ho).1
                                rcases (by omega : i = 0 ∨ i = 1 ∨ i = 2 ∨ i = 3 ∨ i = 4 ∨ i = 5) with rfl | rfl | rfl | rfl | rfl | rfl
                                all_goals
                                  simp only [List.getElem?_toArray, List.getElem?_cons_zero, List.getElem?_cons_succ, Option.some.injEq] at ho
                                  subst ho
                                · as_aux_lemma =>
                                    have e2 : a'.eval (.tmp 2) = .int .u8 (a : Int) := (hI.old (by decide)).trans ha.f2
                                    refine .inl ⟨wanted_free rfl, ?_⟩
                                    refine wp_value (w' := wx) ?_ (VS.step hI (d := 253) (by rw [ha.size]; kernel_rfl) (by decide) rfl hI.world (Kept.refl _ _) noE_kept)
                                    (unfold execOp; simp only [List.map_toArray, List.map_cons, List.map_nil, e2]; (try simp [go_sem, e2]); try omega)
                                · as_aux_lemma =>
                                    have e253 : a'.eval (.tmp 253) = .int .u8 (a : Int) := hI.eval (k := 0) (by decide) (hall ⟨0, .data⟩ (by simp) rfl)
                                    refine .inl ⟨wanted_free rfl, ?_⟩
                                    refine wp_value (w' := wx) ?_ (VS.step hI (d := 254) (by rw [ha.size]; kernel_rfl) (by decide) rfl hI.world (Kept.refl _ _) noE_kept)
                                    (unfold execOp; simp only [List.map_toArray, List.map_cons, List.map_nil, e253, hquo, hwq]; (try simp [go_sem, e253, hquo, hwq]); try omega)
                                · as_aux_lemma =>
                                    have e254 : a'.eval (.tmp 254) = .int .u8 ((a : Int) / 4) := hI.eval (k := 1) (by decide) (hall ⟨1, .data⟩ (by simp) rfl)
                                    refine .inl ⟨wanted_free rfl, ?_⟩
                                    refine wp_value (w' := wx) ?_ (VS.step hI (d := 255) (by rw [ha.size]; kernel_rfl) (by decide) rfl hI.world (Kept.refl _ _) noE_kept)
                                    (unfold execOp; simp only [List.map_toArray, List.map_cons, List.map_nil, e254, hwi]; (try simp [go_sem, e254, hwi]); try omega)
                                · as_aux_lemma =>
                                    have e20 : a'.eval (.tmp 20) = .int .i64 ((made x).vlans.length : Int) := (hI.old (by decide)).trans hn16
                                    refine .inl ⟨wanted_free rfl, ?_⟩
                                    refine wp_value (w' := wx) ?_ (VS.step hI (d := 256) (by rw [ha.size]; kernel_rfl) (by decide) rfl hI.world (Kept.refl _ _) noE_kept)
                                    (unfold execOp; simp only [List.map_toArray, List.map_cons, List.map_nil, e20]; (try simp [go_sem, e20]); try omega)
                                · as_aux_lemma =>
                                    have e255 : a'.eval (.tmp 255) = .int .i64 ((a : Int) / 4) := hI.eval (k := 2) (by decide) (hall ⟨2, .data⟩ (by simp) rfl)
                                    have e256 : a'.eval (.tmp 256) = .int .i64 ((made x).vlans.length : Int) := hI.eval (k := 3) (by decide) (hall ⟨3, .data⟩ (by simp) rfl)
                                    refine .inl ⟨wanted_free rfl, ?_⟩
                                    refine wp_value (w' := wx) ?_ (VS.step hI (d := 257) (by rw [ha.size]; kernel_rfl) (by decide) rfl hI.world (Kept.refl _ _) noE_kept)
                                    (unfold execOp; simp only [List.map_toArray, List.map_cons, List.map_nil, e255, e256, hdiv, hnil]; (try simp [go_sem, e255, e256, hdiv, hnil]); try omega)
                                · as_aux_lemma =>
                                    have e257 : a'.eval (.tmp 257) = .int .i64 (k : Int) := hI.eval (k := 4) (by decide) (hall ⟨4, .data⟩ (by simp) rfl)
                                    refine .inl ⟨wanted_free rfl, ?_⟩
                                    refine wp_value (w' := wx) ?_ (VS.step hI (d := 21) (by rw [ha.size]; kernel_rfl) (by decide) rfl hI.world (Kept.refl _ _) noE_kept)
                                    (unfold execOp; simp only [List.map_toArray, List.map_cons, List.map_nil, e257]; (try simp [go_sem, e257]); try omega)
                              · intro f r2 wx hf hI
                                have hwx := hI.world
                                have hk17 : r2.eval (.tmp 21) = .int .i64 (k : Int) := hI.eval (k := 5) (by decide) (hf 5 (by decide))
                                have ia := ha.keep hI (by decide)
                                clear hI hf
                                rw [hwx]
                                clear hwx
                                change Code.wp _ _ _ _ _
                                refine wp_region_invG (by kernel_rfl) (by kernel_rfl) (Slots r2 ch36D (valS (ch36V X9 g (made x).vlans.length k m9 (.int .u16 (intAt p 0)) (.int .u16 (bits .xor .u16 (intAt p 0) 1))) noE) (fun f w => ScW wf1.drew 12 10 ⟨g, k * 3, none⟩ (.int .u16 (bits .xor .u16 (intAt p 0) 1)) f w)) (Slots.start (ScW.start _ _ _ _ _)) ?_ ?_
                                · intro f a' wx hI i o ho hfi hall
                                  have hi : i < 14 := (Array.getElem?_eq_some_iff.1 ho).1
                                  rcases (by omega : i = 0 ∨ i = 1 ∨ i = 2 ∨ i = 3 ∨ i = 4 ∨ i = 5 ∨ i = 6 ∨ i = 7 ∨ i = 8 ∨ i = 9 ∨ i = 10 ∨ i = 11 ∨ i = 12 ∨ i = 13) with rfl | rfl | rfl | rfl | rfl | rfl | rfl | rfl | rfl | rfl | rfl | rfl | rfl | rfl
                                  all_goals
                                    simp only [List.getElem?_toArray, List.getElem?_cons_zero, List.getElem?_cons_succ, Option.some.injEq] at ho
                                    subst ho
                                  · as_aux_lemma =>
                                      have e9 : a'.eval (.tmp 9) = .pointer (some ⟨X9, 0, none⟩) := (hI.old (by decide)).trans ia.f9
                                      refine .inl ⟨wanted_free rfl, ?_⟩
                                      refine wp_value (w' := wx) ?_ (VS.step hI (d := 258) (by rw [ia.size]; kernel_rfl) (by decide) rfl (hI.world.step (by decide)) (Kept.refl _ _) noE_kept)
                                      (unfold execOp; simp only [List.map_toArray, List.map_cons, List.map_nil, e9]; (try simp [go_sem, e9]); try omega)
                                  · as_aux_lemma =>
                                      have e258 : a'.eval (.tmp 258) = .pointer (some ⟨X9, 7, none⟩) := hI.eval (k := 0) (by decide) (hall ⟨0, .data⟩ (by simp) rfl)
                                      refine .inl ⟨wanted_free rfl, ?_⟩
                                      have hwx := hI.world.before (by decide) hfi
                                      have hc : wx.cell? ⟨X9, 7, none⟩ = some (.slice (some ⟨g, 0, none⟩) (made x).vlans.length m9) := by rw [hwx]; exact hy
                                      refine wp_value (w' := wx) ?_ (VS.step hI (d := 259) (by rw [ia.size]; kernel_rfl) (by decide) rfl (hI.world.step (by decide)) (Kept.refl _ _) noE_kept)
                                      (unfold execOp; simp only [List.map_toArray, List.map_cons, List.map_nil, e258, hc]; (try simp [go_sem, e258, hc]); try omega)
                                  · as_aux_lemma =>
                                      have e21 : a'.eval (.tmp 21) = .int .i64 (k : Int) := (hI.old (by decide)).trans hk17
                                      refine .inl ⟨wanted_free rfl, ?_⟩
                                      refine wp_value (w' := wx) ?_ (VS.step hI (d := 260) (by rw [ia.size]; kernel_rfl) (by decide) rfl (hI.world.step (by decide)) (Kept.refl _ _) noE_kept)
                                      (unfold execOp; simp only [List.map_toArray, List.map_cons, List.map_nil, e21]; (try simp [go_sem, e21]); try omega)
                                  · as_aux_lemma =>
                                      have e9 : a'.eval (.tmp 9) = .pointer (some ⟨X9, 0, none⟩) := (hI.old (by decide)).trans ia.f9
                                      refine .inl ⟨wanted_free rfl, ?_⟩
                                      refine wp_value (w' := wx) ?_ (VS.step hI (d := 261) (by rw [ia.size]; kernel_rfl) (by decide) rfl (hI.world.step (by decide)) (Kept.refl _ _) noE_kept)
                                      (unfold execOp; simp only [List.map_toArray, List.map_cons, List.map_nil, e9]; (try simp [go_sem, e9]); try omega)
                                  · as_aux_lemma =>
                                      have e261 : a'.eval (.tmp 261) = .pointer (some ⟨X9, 7, none⟩) := hI.eval (k := 3) (by decide) (hall ⟨3, .data⟩ (by simp) rfl)
                                      refine .inl ⟨wanted_free rfl, ?_⟩
                                      have hwx := hI.world.before (by decide) hfi
                                      have hc : wx.cell? ⟨X9, 7, none⟩ = some (.slice (some ⟨g, 0, none⟩) (made x).vlans.length m9) := by rw [hwx]; exact hy
                                      refine wp_value (w' := wx) ?_ (VS.step hI (d := 262) (by rw [ia.size]; kernel_rfl) (by decide) rfl (hI.world.step (by decide)) (Kept.refl _ _) noE_kept)
                                      (unfold execOp; simp only [List.map_toArray, List.map_cons, List.map_nil, e261, hc]; (try simp [go_sem, e261, hc]); try omega)
                                  · as_aux_lemma =>
                                      have e21 : a'.eval (.tmp 21) = .int .i64 (k : Int) := (hI.old (by decide)).trans hk17
                                      refine .inl ⟨wanted_free rfl, ?_⟩
                                      refine wp_value (w' := wx) ?_ (VS.step hI (d := 263) (by rw [ia.size]; kernel_rfl) (by decide) rfl (hI.world.step (by decide)) (Kept.refl _ _) noE_kept)
                                      (unfold execOp; simp only [List.map_toArray, List.map_cons, List.map_nil, e21]; (try simp [go_sem, e21]); try omega)
                                  · as_aux_lemma =>
                                      have e262 : a'.eval (.tmp 262) = .slice (some ⟨g, 0, none⟩) (made x).vlans.length m9 := hI.eval (k := 4) (by decide) (hall ⟨4, .data⟩ (by simp) rfl)
                                      have e263 : a'.eval (.tmp 263) = .int .i64 (k : Int) := hI.eval (k := 5) (by decide) (hall ⟨5, .data⟩ (by simp) rfl)
                                      refine .inl ⟨wanted_free rfl, ?_⟩
                                      refine wp_value (w' := wx) ?_ (VS.step hI (d := 264) (by rw [ia.size]; kernel_rfl) (by decide) rfl (hI.world.step (by decide)) (Kept.refl _ _) noE_kept)
                                      (unfold execOp; simp only [List.map_toArray, List.map_cons, List.map_nil, e262, e263, hki]; (try simp [go_sem, e262, e263, hki]); try omega)
                                  · as_aux_lemma =>
                                      have e264 : a'.eval (.tmp 264) = .pointer (some ⟨g, k * 3, none⟩) := hI.eval (k := 6) (by decide) (hall ⟨6, .data⟩ (by simp) rfl)
                                      refine .inl ⟨wanted_free rfl, ?_⟩
                                      refine wp_value (w' := wx) ?_ (VS.step hI (d := 265) (by rw [ia.size]; kernel_rfl) (by decide) rfl (hI.world.step (by decide)) (Kept.refl _ _) noE_kept)
                                      (unfold execOp; simp only [List.map_toArray, List.map_cons, List.map_nil, e264]; (try simp [go_sem, e264]); try omega)
                                  · as_aux_lemma =>
                                      have e265 : a'.eval (.tmp 265) = .pointer (some ⟨g, k * 3, none⟩) := hI.eval (k := 7) (by decide) (hall ⟨7, .data⟩ (by simp) rfl)
                                      refine .inl ⟨wanted_free rfl, ?_⟩
                                      have hwx := hI.world.before (by decide) hfi
                                      have hc : wx.cell? ⟨g, k * 3, none⟩ = some (.int .u16 (intAt p 0)) := by rw [hwx]; exact hcell
                                      refine wp_value (w' := wx) ?_ (VS.step hI (d := 266) (by rw [ia.size]; kernel_rfl) (by decide) rfl (hI.world.step (by decide)) (Kept.refl _ _) noE_kept)
                                      (unfold execOp; simp only [List.map_toArray, List.map_cons, List.map_nil, e265, hc]; (try simp [go_sem, e265, hc]); try omega)
                                  · as_aux_lemma =>
                                      have e266 : a'.eval (.tmp 266) = .int .u16 (intAt p 0) := hI.eval (k := 8) (by decide) (hall ⟨8, .data⟩ (by simp) rfl)
                                      refine .inl ⟨wanted_free rfl, ?_⟩
                                      refine wp_value (w' := wx) ?_ (VS.step hI (d := 267) (by rw [ia.size]; kernel_rfl) (by decide) rfl (hI.world.step (by decide)) (Kept.refl _ _) noE_kept)
                                      (unfold execOp; simp only [List.map_toArray, List.map_cons, List.map_nil, e266]; (try simp [go_sem, e266]); try omega)
                                  · as_aux_lemma =>
                                      have e259 : a'.eval (.tmp 259) = .slice (some ⟨g, 0, none⟩) (made x).vlans.length m9 := hI.eval (k := 1) (by decide) (hall ⟨1, .data⟩ (by simp) rfl)
                                      have e260 : a'.eval (.tmp 260) = .int .i64 (k : Int) := hI.eval (k := 2) (by decide) (hall ⟨2, .data⟩ (by simp) rfl)
                                      refine .inl ⟨wanted_free rfl, ?_⟩
                                      refine wp_value (w' := wx) ?_ (VS.step hI (d := 268) (by rw [ia.size]; kernel_rfl) (by decide) rfl (hI.world.step (by decide)) (Kept.refl _ _) noE_kept)
                                      (unfold execOp; simp only [List.map_toArray, List.map_cons, List.map_nil, e259, e260, hki]; (try simp [go_sem, e259, e260, hki]); try omega)
                                  · as_aux_lemma =>
                                      have e268 : a'.eval (.tmp 268) = .pointer (some ⟨g, k * 3, none⟩) := hI.eval (k := 10) (by decide) (hall ⟨10, .data⟩ (by simp) rfl)
                                      refine .inl ⟨wanted_free rfl, ?_⟩
                                      refine wp_value (w' := wx) ?_ (VS.step hI (d := 269) (by rw [ia.size]; kernel_rfl) (by decide) rfl (hI.world.step (by decide)) (Kept.refl _ _) noE_kept)
                                      (unfold execOp; simp only [List.map_toArray, List.map_cons, List.map_nil, e268]; (try simp [go_sem, e268]); try omega)
                                  · as_aux_lemma =>
                                      have e269 : a'.eval (.tmp 269) = .pointer (some ⟨g, k * 3, none⟩) := hI.eval (k := 11) (by decide) (hall ⟨11, .data⟩ (by simp) rfl)
                                      have e267 : a'.eval (.tmp 267) = .int .u16 (bits .xor .u16 (intAt p 0) 1) := hI.eval (k := 9) (by decide) (hall ⟨9, .data⟩ (by simp) rfl)
                                      refine .inl ⟨wanted_free rfl, ?_⟩
                                      have hwx := hI.world.old hfi
                                      have hc : wx.cell? ⟨g, k * 3, none⟩ = some (.int .u16 (intAt p 0)) := by rw [hwx]; exact hcell
                                      have hz : wx.frozen? ⟨g, k * 3, none⟩ = false := by rw [hwx]; exact hfroz
                                      refine wp_skip (w' := wx.setCell ⟨g, k * 3, none⟩ (.int .u16 (bits .xor .u16 (intAt p 0) 1))) ?_ (hI.pass (by decide) (hI.world.store hfi (fun j hj => ?_)) (fun _ _ _ _ h => h))
                                      · (unfold execOp; simp only [List.map_toArray, List.map_cons, List.map_nil, e269, e267, hc, hz]; (try simp [go_sem, e269, e267, hc, hz]); try omega)
                                      · rcases (by omega : j = 0 ∨ j = 1 ∨ j = 2 ∨ j = 3 ∨ j = 4 ∨ j = 5 ∨ j = 6 ∨ j = 7 ∨ j = 8 ∨ j = 9) with rfl | rfl | rfl | rfl | rfl | rfl | rfl | rfl | rfl | rfl <;> exact hall ⟨_, .phase⟩ (by simp) rfl
                                  · as_aux_lemma =>
                                      refine .inl ⟨wanted_free rfl, ?_⟩
                                      refine wp_value (w' := wx) ?_ (VS.step hI (d := 15) (by rw [ia.size]; kernel_rfl) (by decide) rfl (hI.world.step (by decide)) (Kept.refl _ _) noE_kept)
                                      (unfold execOp; simp only [List.map_toArray, List.map_cons, List.map_nil]; (try simp [go_sem]); try omega)
                                · intro f s2 wx hf hI
                                  have hwx := hI.world.new (hf 12 (by decide))
                                  have j15 : s2.eval (.tmp 15) = .bool true := hI.eval (k := 13) (by decide) (hf 13 (by decide))
                                  have ja := ia.keep hI (by decide)
                                  clear hI hf
                                  rw [hwx]
                                  clear hwx
                                  exact ⟨rfl, ja, true, j15, (CH.out.1.drew).setCell (fun h => by have h2 : g < wz.heap.size := h; omega) _, hturn.kept (Kept.refl _ _).drew⟩
                          · have hj1 : ¬ ((a : Int) % 4) = 2 := by omega
                            refine wp_region_plainG (by kernel_rfl) (Slots p2 ch34bD (valS (ch34bV (made x).vlans.length a) noE) (fun _ w => w = wf1)) (Slots.start rfl) ?_ ?_
                            · intro f a' wx hI i o ho hfi hall
                              have hi : i < 7 := (Array.getElem?_eq_some_iff.1 ho).1
                              rcases (by omega : i = 0 ∨ i = 1 ∨ i = 2 ∨ i = 3 ∨ i = 4 ∨ i = 5 ∨ i = 6) with rfl | rfl | rfl | rfl | rfl | rfl | rfl
                              all_goals
                                simp only [List.getElem?_toArray, List.getElem?_cons_zero, List.getElem?_cons_succ, Option.some.injEq] at ho
                                subst ho
                              · as_aux_lemma =>
                                  have e20 : a'.eval (.tmp 20) = .int .i64 ((made x).vlans.length : Int) := (hI.old (by decide)).trans gn
                                  refine .inl ⟨wanted_free rfl, ?_⟩
                                  refine wp_value (w' := wx) ?_ (VS.step hI (d := 246) (by rw [ga.size]; kernel_rfl) (by decide) rfl hI.world (Kept.refl _ _) noE_kept)
                                  (unfold execOp; simp only [List.map_toArray, List.map_cons, List.map_nil, e20]; (try simp [go_sem, e20]); try omega)
                              · as_aux_lemma =>
                                  have e246 : a'.eval (.tmp 246) = .int .i64 ((made x).vlans.length : Int) := hI.eval (k := 0) (by decide) (hall ⟨0, .data⟩ (by simp) rfl)
                                  refine .inl ⟨wanted_free rfl, ?_⟩
                                  refine wp_value (w' := wx) ?_ (VS.step hI (d := 247) (by rw [ga.size]; kernel_rfl) (by decide) rfl hI.world (Kept.refl _ _) noE_kept)
                                  (unfold execOp; simp only [List.map_toArray, List.map_cons, List.map_nil, e246, hn1]; (try simp [go_sem, e246, hn1]); try omega)
                              · as_aux_lemma =>
                                  have e247 : a'.eval (.tmp 247) = .bool true := hI.eval (k := 1) (by decide) (hall ⟨1, .data⟩ (by simp) rfl)
                                  refine .inl ⟨wanted_free rfl, ?_⟩
                                  refine wp_value (w' := wx) ?_ (VS.step hI (d := 248) (by rw [ga.size]; kernel_rfl) (by decide) rfl hI.world (Kept.refl _ _) noE_kept)
                                  (unfold execOp; simp only [List.map_toArray, List.map_cons, List.map_nil, e247]; (try simp [go_sem, e247]); try omega)
                              · as_aux_lemma =>
                                  have e2 : a'.eval (.tmp 2) = .int .u8 (a : Int) := (hI.old (by decide)).trans ga.f2
                                  have e248 : a'.eval (.tmp 248) = .bool true := hI.eval (k := 2) (by decide) (hall ⟨2, .guard⟩ (by simp) rfl)
                                  refine .inl ⟨wanted_yes rfl (d := 248) rfl e248, ?_⟩
                                  refine wp_value (w' := wx) ?_ (VS.step hI (d := 249) (by rw [ga.size]; kernel_rfl) (by decide) rfl hI.world (Kept.refl _ _) noE_kept)
                                  (unfold execOp; simp only [List.map_toArray, List.map_cons, List.map_nil, e2]; (try simp [go_sem, e2]); try omega)
                              · as_aux_lemma =>
                                  have e249 : a'.eval (.tmp 249) = .int .u8 (a : Int) := hI.eval (k := 3) (by decide) (hall ⟨3, .data⟩ (by simp) rfl)
                                  have e248 : a'.eval (.tmp 248) = .bool true := hI.eval (k := 2) (by decide) (hall ⟨2, .guard⟩ (by simp) rfl)
                                  refine .inl ⟨wanted_yes rfl (d := 248) rfl e248, ?_⟩
                                  refine wp_value (w' := wx) ?_ (VS.step hI (d := 250) (by rw [ga.size]; kernel_rfl) (by decide) rfl hI.world (Kept.refl _ _) noE_kept)
                                  (unfold execOp; simp only [List.map_toArray, List.map_cons, List.map_nil, e249, hmod]; (try simp [go_sem, e249, hmod]); try omega)
                              · as_aux_lemma =>
                                  have e250 : a'.eval (.tmp 250) = .int .u8 ((a : Int) % 4) := hI.eval (k := 4) (by decide) (hall ⟨4, .data⟩ (by simp) rfl)
                                  have e248 : a'.eval (.tmp 248) = .bool true := hI.eval (k := 2) (by decide) (hall ⟨2, .guard⟩ (by simp) rfl)
                                  refine .inl ⟨wanted_yes rfl (d := 248) rfl e248, ?_⟩
                                  refine wp_value (w' := wx) ?_ (VS.step hI (d := 251) (by rw [ga.size]; kernel_rfl) (by decide) rfl hI.world (Kept.refl _ _) noE_kept)
                                  (unfold execOp; simp only [List.map_toArray, List.map_cons, List.map_nil, e250, hj1]; (try simp [go_sem, e250, hj1]); try omega)
                              · as_aux_lemma =>
                                  have e248 : a'.eval (.tmp 248) = .bool true := hI.eval (k := 2) (by decide) (hall ⟨2, .data⟩ (by simp) rfl)
                                  have e251 : a'.eval (.tmp 251) = .bool false := hI.eval (k := 5) (by decide) (hall ⟨5, .data⟩ (by simp) rfl)
                                  refine .inl ⟨wanted_free rfl, ?_⟩
                                  refine wp_value (w' := wx) ?_ (VS.step hI (d := 252) (by rw [ga.size]; kernel_rfl) (by decide) rfl hI.world (Kept.refl _ _) noE_kept)
                                  (unfold execOp; simp only [List.map_toArray, List.map_cons, List.map_nil, e248, e251]; (try simp [go_sem, e248, e251]); try omega)
                            · intro f q2 wx hf hI
                              have hwx := hI.world
                              have gc : q2.eval (.tmp 252) = .bool false := hI.eval (k := 6) (by decide) (hf 6 (by decide))
                              have h15 : q2.eval (.tmp 15) = .bool ch := (hI.old (by decide)).trans g15
                              have hn16 : q2.eval (.tmp 20) = .int .i64 ((made x).vlans.length : Int) := (hI.old (by decide)).trans gn
                              have ha := ga.keep hI (by decide)
                              clear hI hf
                              rw [hwx]
                              clear hwx
                              change Code.wp _ _ _ _ _
                              refine wp_cond_false gc ?_
                              exact Go.wp_skip ⟨rfl, ha, ch, h15, CH.out.1, CH.out.2.up⟩
                        · have hn0 : ((made x).vlans.length : Int) = 0 := by omega
                          refine wp_region_plainG (by kernel_rfl) (Slots p2 ch34aD (valS (ch34aV (made x).vlans.length a) noE) (fun _ w => w = wf1)) (Slots.start rfl) ?_ ?_
                          · intro f a' wx hI i o ho hfi hall
                            have hi : i < 7 := (Array.getElem?_eq_some_iff.1 ho).1
                            rcases (by omega : i = 0 ∨ i = 1 ∨ i = 2 ∨ i = 3 ∨ i = 4 ∨ i = 5 ∨ i = 6) with rfl | rfl | rfl | rfl | rfl | rfl | rfl
                            all_goals
                              simp only [List.getElem?_toArray, List.getElem?_cons_zero, List.getElem?_cons_succ, Option.some.injEq] at ho
                              subst ho
                            · as_aux_lemma =>
                                have e20 : a'.eval (.tmp 20) = .int .i64 ((made x).vlans.length : Int) := (hI.old (by decide)).trans gn
                                refine .inl ⟨wanted_free rfl, ?_⟩
                                refine wp_value (w' := wx) ?_ (VS.step hI (d := 246) (by rw [ga.size]; kernel_rfl) (by decide) rfl hI.world (Kept.refl _ _) noE_kept)
                                (unfold execOp; simp only [List.map_toArray, List.map_cons, List.map_nil, e20]; (try simp [go_sem, e20]); try omega)
                            · as_aux_lemma =>
                                have e246 : a'.eval (.tmp 246) = .int .i64 ((made x).vlans.length : Int) := hI.eval (k := 0) (by decide) (hall ⟨0, .data⟩ (by simp) rfl)
                                refine .inl ⟨wanted_free rfl, ?_⟩
                                refine wp_value (w' := wx) ?_ (VS.step hI (d := 247) (by rw [ga.size]; kernel_rfl) (by decide) rfl hI.world (Kept.refl _ _) noE_kept)
                                (unfold execOp; simp only [List.map_toArray, List.map_cons, List.map_nil, e246, hn0]; (try simp [go_sem, e246, hn0]); try omega)
                            · as_aux_lemma =>
                                have e247 : a'.eval (.tmp 247) = .bool false := hI.eval (k := 1) (by decide) (hall ⟨1, .data⟩ (by simp) rfl)
                                refine .inl ⟨wanted_free rfl, ?_⟩
                                refine wp_value (w' := wx) ?_ (VS.step hI (d := 248) (by rw [ga.size]; kernel_rfl) (by decide) rfl hI.world (Kept.refl _ _) noE_kept)
                                (unfold execOp; simp only [List.map_toArray, List.map_cons, List.map_nil, e247]; (try simp [go_sem, e247]); try omega)
                            · as_aux_lemma =>
                                have e248 : a'.eval (.tmp 248) = .bool false := hI.eval (k := 2) (by decide) (hall ⟨2, .guard⟩ (by simp) rfl)
                                exact .inr ⟨wanted_no rfl (d := 248) rfl e248 (by decide), VS.step hI (d := 249) (by rw [ga.size]; kernel_rfl) (by decide) rfl hI.world (Kept.refl _ _) noE_kept⟩
                            · as_aux_lemma =>
                                have e248 : a'.eval (.tmp 248) = .bool false := hI.eval (k := 2) (by decide) (hall ⟨2, .guard⟩ (by simp) rfl)
                                exact .inr ⟨wanted_no rfl (d := 248) rfl e248 (by decide), VS.step hI (d := 250) (by rw [ga.size]; kernel_rfl) (by decide) rfl hI.world (Kept.refl _ _) noE_kept⟩
                            · as_aux_lemma =>
                                have e248 : a'.eval (.tmp 248) = .bool false := hI.eval (k := 2) (by decide) (hall ⟨2, .guard⟩ (by simp) rfl)
                                exact .inr ⟨wanted_no rfl (d := 248) rfl e248 (by decide), VS.step hI (d := 251) (by rw [ga.size]; kernel_rfl) (by decide) rfl hI.world (Kept.refl _ _) noE_kept⟩
                            · as_aux_lemma =>
                                have e248 : a'.eval (.tmp 248) = .bool false := hI.eval (k := 2) (by decide) (hall ⟨2, .data⟩ (by simp) rfl)
                                have e251 : a'.eval (.tmp 251) = undef := hI.eval (k := 5) (by decide) (hall ⟨5, .data⟩ (by simp) rfl)
                                refine .inl ⟨wanted_free rfl, ?_⟩
                                refine wp_value (w' := wx) ?_ (VS.step hI (d := 252) (by rw [ga.size]; kernel_rfl) (by decide) rfl hI.world (Kept.refl _ _) noE_kept)
                                (unfold execOp; simp only [List.map_toArray, List.map_cons, List.map_nil, e248, e251]; (try simp [go_sem, e248, e251]); try omega)
                          · intro f q2 wx hf hI
                            have hwx := hI.world
                            have gc : q2.eval (.tmp 252) = .bool false := hI.eval (k := 6) (by decide) (hf 6 (by decide))
                            have h15 : q2.eval (.tmp 15) = .bool ch := (hI.old (by decide)).trans g15
                            have hn16 : q2.eval (.tmp 20) = .int .i64 ((made x).vlans.length : Int) := (hI.old (by decide)).trans gn
                            have ha := ga.keep hI (by decide)
                            clear hI hf
                            rw [hwx]
                            clear hwx
                            change Code.wp _ _ _ _ _
                            refine wp_cond_false gc ?_
                            exact Go.wp_skip ⟨rfl, ha, ch, h15, CH.out.1, CH.out.2.up⟩
                    · clear f15 ta1 CH ch
                      rintro e t2 wf2 ⟨rfl, ta2, ch, f15, hk, hc⟩
                      have CH := Lib.hid (show Kept noB wz wf2 ∧ ChAt (made x) wz.heap.size X9 a (.slice A9 (made x).ports.length k9) (.slice B9 (made x).vlans.length m9) (.slice C9 (made x).stat.length n9) (.slice D9 (made x).fdb.length o9) 3 ch wf2 from ⟨hk, hc⟩)
                      clear hk hc
                      change Code.wp _ _ _ _ _
                      refine wp_seq ?_
                      refine wp_mono (Q := (fun e b w => e = .normal ∧ FA b a B X7 X9 ∧ ∃ ch, b.eval (.tmp 15) = .bool ch ∧ Kept noB wz w ∧ ChAt (made x) wz.heap.size X9 a (.slice A9 (made x).ports.length k9) (.slice B9 (made x).vlans.length m9) (.slice C9 (made x).stat.length n9) (.slice D9 (made x).fdb.length o9) 4 ch w)) ?_ ?_
                      · have hy := CH.out.2.cellS
                        have hnl : (made x).stat.length ≤ 1000 := MOK.out.l3
                        refine wp_seq ?_
                        refine wp_region_plainG (by kernel_rfl) (Slots t2 ch37D (valS (ch37V X9 (made x).stat.length n9 C9) noE) (fun _ w => w = wf2)) (Slots.start rfl) ?_ ?_
                        · intro f a' wx hI i o ho hfi hall
                          have hi : i < 4 := (Array.getElem?_eq_some_iff.1 ho).1
                          rcases (by omega : i = 0 ∨ i = 1 ∨ i = 2 ∨ i = 3) with rfl | rfl | rfl | rfl
                          all_goals
                            simp only [List.getElem?_toArray, List.getElem?_cons_zero, List.getElem?_cons_succ, Option.some.injEq] at ho
                            subst ho
                          · as_aux_lemma =>
                              have e9 : a'.eval (.tmp 9) = .pointer (some ⟨X9, 0, none⟩) := (hI.old (by decide)).trans ta2.f9
                              refine .inl ⟨wanted_free rfl, ?_⟩
                              refine wp_value (w' := wx) ?_ (VS.step hI (d := 270) (by rw [ta2.size]; kernel_rfl) (by decide) rfl hI.world (Kept.refl _ _) noE_kept)
                              (unfold execOp; simp only [List.map_toArray, List.map_cons, List.map_nil, e9]; (try simp [go_sem, e9]); try omega)
                          · as_aux_lemma =>
                              have e270 : a'.eval (.tmp 270) = .pointer (some ⟨X9, 8, none⟩) := hI.eval (k := 0) (by decide) (hall ⟨0, .data⟩ (by simp) rfl)
                              refine .inl ⟨wanted_free rfl, ?_⟩
                              have hwx := hI.world
                              have hc : wx.cell? ⟨X9, 8, none⟩ = some (.slice C9 (made x).stat.length n9) := by rw [hwx]; exact hy
                              refine wp_value (w' := wx) ?_ (VS.step hI (d := 271) (by rw [ta2.size]; kernel_rfl) (by decide) rfl hI.world (Kept.refl _ _) noE_kept)
                              (unfold execOp; simp only [List.map_toArray, List.map_cons, List.map_nil, e270, hc]; (try simp [go_sem, e270, hc]); try omega)
                          · as_aux_lemma =>
                              have e271 : a'.eval (.tmp 271) = .slice C9 (made x).stat.length n9 := hI.eval (k := 1) (by decide) (hall ⟨1, .data⟩ (by simp) rfl)
                              refine .inl ⟨wanted_free rfl, ?_⟩
                              refine wp_value (w' := wx) ?_ (VS.step hI (d := 272) (by rw [ta2.size]; kernel_rfl) (by decide) rfl hI.world (Kept.refl _ _) noE_kept)
                              have re271 := e271
                              simp only [Act.eval, Array.getD_eq_getD_getElem?] at re271
                              (unfold execOp; simp only [List.map_toArray, List.map_cons, List.map_nil, e271, re271]; (try simp [go_sem, e271, re271]); try omega)
                          · as_aux_lemma =>
                              have e272 : a'.eval (.tmp 272) = .int .i64 ((made x).stat.length : Int) := hI.eval (k := 2) (by decide) (hall ⟨2, .data⟩ (by simp) rfl)
                              refine .inl ⟨wanted_free rfl, ?_⟩
                              refine wp_value (w' := wx) ?_ (VS.step hI (d := 22) (by rw [ta2.size]; kernel_rfl) (by decide) rfl hI.world (Kept.refl _ _) noE_kept)
                              (unfold execOp; simp only [List.map_toArray, List.map_cons, List.map_nil, e272]; (try simp [go_sem, e272]); try omega)
                        · intro f p3 wx hf hI
                          have hwx := hI.world
                          have gn : p3.eval (.tmp 22) = .int .i64 ((made x).stat.length : Int) := hI.eval (k := 3) (by decide) (hf 3 (by decide))
                          have g15 : p3.eval (.tmp 15) = .bool ch := (hI.old (by decide)).trans f15
                          have ga := ta2.keep hI (by decide)
                          clear hI hf
                          rw [hwx]
                          clear hwx
                          change Code.wp _ _ _ _ _
                          refine wp_seq ?_
                          by_cases hn : 0 < (made x).stat.length
                          · have hn1 : (0 : Int) < ((made x).stat.length : Int) := by omega
                            have hmod : ((a : Int).tmod 4) = (a : Int) % 4 := Int.tmod_eq_emod_of_nonneg (by omega)
                            by_cases hj : a % 4 = 3
                            · have hj1 : ((a : Int) % 4) = 3 := by omega
                              refine wp_region_plainG (by kernel_rfl) (Slots p3 ch38cD (valS (ch38cV (made x).stat.length a) noE) (fun _ w => w = wf2)) (Slots.start rfl) ?_ ?_
                              · intro f a' wx hI i o ho hfi hall
                                have hi : i < 7 := (Array.getElem?_eq_some_iff.1 ho).1
                                rcases (by omega : i = 0 ∨ i = 1 ∨ i = 2 ∨ i = 3 ∨ i = 4 ∨ i = 5 ∨ i = 6) with rfl | rfl | rfl | rfl | rfl | rfl | rfl
                                all_goals
                                  simp only [List.getElem?_toArray, List.getElem?_cons_zero, List.getElem?_cons_succ, Option.some.injEq] at ho
                                  subst ho
                                · as_aux_lemma =>
                                    have e22 : a'.eval (.tmp 22) = .int .i64 ((made x).stat.length : Int) := (hI.old (by decide)).trans gn
                                    refine .inl ⟨wanted_free rfl, ?_⟩
                                    refine wp_value (w' := wx) ?_ (VS.step hI (d := 273) (by rw [ga.size]; kernel_rfl) (by decide) rfl hI.world (Kept.refl _ _) noE_kept)
                                    (unfold execOp; simp only [List.map_toArray, List.map_cons, List.map_nil, e22]; (try simp [go_sem, e22]); try omega)
                                · as_aux_lemma =>
                                    have e273 : a'.eval (.tmp 273) = .int .i64 ((made x).stat.length : Int) := hI.eval (k := 0) (by decide) (hall ⟨0, .data⟩ (by simp) rfl)
                                    refine .inl ⟨wanted_free rfl, ?_⟩
                                    refine wp_value (w' := wx) ?_ (VS.step hI (d := 274) (by rw [ga.size]; kernel_rfl) (by decide) rfl hI.world (Kept.refl _ _) noE_kept)
                                    (unfold execOp; simp only [List.map_toArray, List.map_cons, List.map_nil, e273, hn1]; (try simp [go_sem, e273, hn1]); try omega)
                                · as_aux_lemma =>
                                    have e274 : a'.eval (.tmp 274) = .bool true := hI.eval (k := 1) (by decide) (hall ⟨1, .data⟩ (by simp) rfl)
                                    refine .inl ⟨wanted_free rfl, ?_⟩
                                    refine wp_value (w' := wx) ?_ (VS.step hI (d := 275) (by rw [ga.size]; kernel_rfl) (by decide) rfl hI.world (Kept.refl _ _) noE_kept)
                                    (unfold execOp; simp only [List.map_toArray, List.map_cons, List.map_nil, e274]; (try simp [go_sem, e274]); try omega)
                                · as_aux_lemma =>
                                    have e2 : a'.eval (.tmp 2) = .int .u8 (a : Int) := (hI.old (by decide)).trans ga.f2
                                    have e275 : a'.eval (.tmp 275) = .bool true := hI.eval (k := 2) (by decide) (hall ⟨2, .guard⟩ (by simp) rfl)
                                    refine .inl ⟨wanted_yes rfl (d := 275) rfl e275, ?_⟩
                                    refine wp_value (w' := wx) ?_ (VS.step hI (d := 276) (by rw [ga.size]; kernel_rfl) (by decide) rfl hI.world (Kept.refl _ _) noE_kept)
                                    (unfold execOp; simp only [List.map_toArray, List.map_cons, List.map_nil, e2]; (try simp [go_sem, e2]); try omega)
                                · as_aux_lemma =>
                                    have e276 : a'.eval (.tmp 276) = .int .u8 (a : Int) := hI.eval (k := 3) (by decide) (hall ⟨3, .data⟩ (by simp) rfl)
                                    have e275 : a'.eval (.tmp 275) = .bool true := hI.eval (k := 2) (by decide) (hall ⟨2, .guard⟩ (by simp) rfl)
                                    refine .inl ⟨wanted_yes rfl (d := 275) rfl e275, ?_⟩
                                    refine wp_value (w' := wx) ?_ (VS.step hI (d := 277) (by rw [ga.size]; kernel_rfl) (by decide) rfl hI.world (Kept.refl _ _) noE_kept)
                                    (unfold execOp; simp only [List.map_toArray, List.map_cons, List.map_nil, e276, hmod]; (try simp [go_sem, e276, hmod]); try omega)
                                · as_aux_lemma =>
                                    have e277 : a'.eval (.tmp 277) = .int .u8 ((a : Int) % 4) := hI.eval (k := 4) (by decide) (hall ⟨4, .data⟩ (by simp) rfl)
                                    have e275 : a'.eval (.tmp 275) = .bool true := hI.eval (k := 2) (by decide) (hall ⟨2, .guard⟩ (by simp) rfl)
                                    refine .inl ⟨wanted_yes rfl (d := 275) rfl e275, ?_⟩
                                    refine wp_value (w' := wx) ?_ (VS.step hI (d := 278) (by rw [ga.size]; kernel_rfl) (by decide) rfl hI.world (Kept.refl _ _) noE_kept)
                                    (unfold execOp; simp only [List.map_toArray, List.map_cons, List.map_nil, e277, hj1]; (try simp [go_sem, e277, hj1]); try omega)
                                · as_aux_lemma =>
                                    have e275 : a'.eval (.tmp 275) = .bool true := hI.eval (k := 2) (by decide) (hall ⟨2, .data⟩ (by simp) rfl)
                                    have e278 : a'.eval (.tmp 278) = .bool true := hI.eval (k := 5) (by decide) (hall ⟨5, .data⟩ (by simp) rfl)
                                    refine .inl ⟨wanted_free rfl, ?_⟩
                                    refine wp_value (w' := wx) ?_ (VS.step hI (d := 279) (by rw [ga.size]; kernel_rfl) (by decide) rfl hI.world (Kept.refl _ _) noE_kept)
                                    (unfold execOp; simp only [List.map_toArray, List.map_cons, List.map_nil, e275, e278]; (try simp [go_sem, e275, e278]); try omega)
                              · intro f q3 wx hf hI
                                have hwx := hI.world
                                have gc : q3.eval (.tmp 279) = .bool true := hI.eval (k := 6) (by decide) (hf 6 (by decide))
                                have h15 : q3.eval (.tmp 15) = .bool ch := (hI.old (by decide)).trans g15
                                have hn16 : q3.eval (.tmp 22) = .int .i64 ((made x).stat.length : Int) := (hI.old (by decide)).trans gn
                                have ha := ga.keep hI (by decide)
                                clear hI hf
                                rw [hwx]
                                clear hwx
                                change Code.wp _ _ _ _ _
                                refine wp_cond_true gc ?_
                                refine wp_seq ?_
                                have hx : ChAt (made x) wz.heap.size X9 a (.slice A9 (made x).ports.length k9) (.slice B9 (made x).vlans.length m9) (.slice C9 (made x).stat.length n9) (.slice D9 (made x).fdb.length o9) (a % 4) ch wf2 := by rw [hj]; exact CH.out.2
                                obtain rfl := hx.not
                                clear hx
                                obtain ⟨g, hA⟩ := CH.out.2.formS rfl hn
                                subst hA
                                obtain ⟨k, hk⟩ : ∃ k, a / 4 % (made x).stat.length = k := ⟨_, rfl⟩
                                have hkn : k < (made x).stat.length := by rw [← hk]; exact Nat.mod_lt _ hn
                                obtain ⟨p, hp⟩ : ∃ p, (made x).stat[k]? = some p := ⟨_, List.getElem?_eq_getElem hkn⟩
                                have hu : p[7]? = some (.int .u32 (intAt p 7)) := int_at (fitsAll_get MOK.out.stat hp) rfl
                                obtain ⟨hcell, hfroz⟩ := CH.out.2.rowS rfl hp hu
                                obtain ⟨hturn, hHg⟩ := CH.out.2.turnS rfl hp hu hj (lf := .i .u32) rfl ⟨_, rfl⟩ (v := .int .u32 (bits .xor .u32 (intAt p 7) 1)) (fun e => xor_one .u32 (by decide) _ (by injection e))
                                have hki : (k : Int) < ((made x).stat.length : Int) := by omega
                                have hdiv : ((a : Int) / 4).tmod ((made x).stat.length : Int) = (k : Int) := by rw [Int.tmod_eq_emod_of_nonneg (by omega), ← hk]; push_cast; rfl
                                have hquo : ((a : Int).tdiv 4) = (a : Int) / 4 := Int.tdiv_eq_ediv_of_nonneg (by omega)
                                have hnil : ((made x).stat = []) = False := eq_false (fun e => by rw [e] at hn; exact absurd hn (by decide))
                                have hwq : IntKind.u8.wrap ((a : Int) / 4) = (a : Int) / 4 := by rw [IntKind.wrap_u8]; omega
                                have hwi : IntKind.i64.wrap ((a : Int) / 4) = (a : Int) / 4 := by rw [IntKind.wrap_i64]; omega
                                clear hk hkn hp hu hj hj1 hmod
                                refine wp_region_plainG (by kernel_rfl) (Slots q3 ch39D (valS (ch39V (made x).stat.length a k) noE) (fun _ w => w = wf2)) (Slots.start rfl) ?_ ?_
                                · intro f a' wx hI i o ho hfi hall
                                  have hi : i < 6 := (Array.getElem?_eq_some_iff.1 ho).1
                                  rcases (by omega : i = 0 ∨ i = 1 ∨ i = 2 ∨ i = 3 ∨ i = 4 ∨ i = 5) with rfl | rfl | rfl | rfl | rfl | rfl
                                  all_goals
                                    simp only [List.getElem?_toArray, List.getElem?_cons_zero, List.getElem?_cons_succ, Option.some.injEq] at ho
                                    subst ho
                                  · as_aux_lemma =>
                                      have e2 : a'.eval (.tmp 2) = .int .u8 (a : Int) := (hI.old (by decide)).trans ha.f2
                                      refine .inl ⟨wanted_free rfl, ?_⟩
                                      refine wp_value (w' := wx) ?_ (VS.step hI (d := 280) (by rw [ha.size]; kernel_rfl) (by decide) rfl hI.world (Kept.refl _ _) noE_kept)
                                      (unfold execOp; simp only [List.map_toArray, List.map_cons, List.map_nil, e2]; (try simp [go_sem, e2]); try omega)
                                  · as_aux_lemma =>
                                      have e280 : a'.eval (.tmp 280) = .int .u8 (a : Int) := hI.eval (k := 0) (by decide) (hall ⟨0, .data⟩ (by simp) rfl)
                                      refine .inl ⟨wanted_free rfl, ?_⟩
                                      refine wp_value (w' := wx) ?_ (VS.step hI (d := 281) (by rw [ha.size]; kernel_rfl) (by decide) rfl hI.world (Kept.refl _ _) noE_kept)
                                      (unfold execOp; simp only [List.map_toArray, List.map_cons, List.map_nil, e280, hquo, hwq]; (try simp [go_sem, e280, hquo, hwq]); try omega)
                                  · as_aux_lemma =>
                                      have e281 : a'.eval (.tmp 281) = .int .u8 ((a : Int) / 4) := hI.eval (k := 1) (by decide) (hall ⟨1, .data⟩ (by simp) rfl)
                                      refine .inl ⟨wanted_free rfl, ?_⟩
                                      refine wp_value (w' := wx) ?_ (VS.step hI (d := 282) (by rw [ha.size]; kernel_rfl) (by decide) rfl hI.world (Kept.refl _ _) noE_kept)
                                      (unfold execOp; simp only [List.map_toArray, List.map_cons, List.map_nil, e281, hwi]; (try simp [go_sem, e281, hwi]); try omega)
                                  · as_aux_lemma =>
                                      have e22 : a'.eval (.tmp 22) = .int .i64 ((made x).stat.length : Int) := (hI.old (by decide)).trans hn16
                                      refine .inl ⟨wanted_free rfl, ?_⟩
                                      refine wp_value (w' := wx) ?_ (VS.step hI (d := 283) (by rw [ha.size]; kernel_rfl) (by decide) rfl hI.world (Kept.refl _ _) noE_kept)
                                      (unfold execOp; simp only [List.map_toArray, List.map_cons, List.map_nil, e22]; (try simp [go_sem, e22]); try omega)
                                  · as_aux_lemma =>
                                      have e282 : a'.eval (.tmp 282) = .int .i64 ((a : Int) / 4) := hI.eval (k := 2) (by decide) (hall ⟨2, .data⟩ (by simp) rfl)
                                      have e283 : a'.eval (.tmp 283) = .int .i64 ((made x).stat.length : Int) := hI.eval (k := 3) (by decide) (hall ⟨3, .data⟩ (by simp) rfl)
                                      refine .inl ⟨wanted_free rfl, ?_⟩
                                      refine wp_value (w' := wx) ?_ (VS.step hI (d := 284) (by rw [ha.size]; kernel_rfl) (by decide) rfl hI.world (Kept.refl _ _) noE_kept)
                                      (unfold execOp; simp only [List.map_toArray, List.map_cons, List.map_nil, e282, e283, hdiv, hnil]; (try simp [go_sem, e282, e283, hdiv, hnil]); try omega)
                                  · as_aux_lemma =>
                                      have e284 : a'.eval (.tmp 284) = .int .i64 (k : Int) := hI.eval (k := 4) (by decide) (hall ⟨4, .data⟩ (by simp) rfl)
                                      refine .inl ⟨wanted_free rfl, ?_⟩
                                      refine wp_value (w' := wx) ?_ (VS.step hI (d := 23) (by rw [ha.size]; kernel_rfl) (by decide) rfl hI.world (Kept.refl _ _) noE_kept)
                                      (unfold execOp; simp only [List.map_toArray, List.map_cons, List.map_nil, e284]; (try simp [go_sem, e284]); try omega)
                                · intro f r3 wx hf hI
                                  have hwx := hI.world
                                  have hk17 : r3.eval (.tmp 23) = .int .i64 (k : Int) := hI.eval (k := 5) (by decide) (hf 5 (by decide))
                                  have ia := ha.keep hI (by decide)
                                  clear hI hf
                                  rw [hwx]
                                  clear hwx
                                  change Code.wp _ _ _ _ _
                                  refine wp_region_invG (by kernel_rfl) (by kernel_rfl) (Slots r3 ch40D (valS (ch40V X9 g (made x).stat.length k n9 (.int .u32 (intAt p 7)) (.int .u32 (bits .xor .u32 (intAt p 7) 1))) noE) (fun f w => ScW wf2.drew 12 10 ⟨g, k * 8 + 7, none⟩ (.int .u32 (bits .xor .u32 (intAt p 7) 1)) f w)) (Slots.start (ScW.start _ _ _ _ _)) ?_ ?_
                                  · intro f a' wx hI i o ho hfi hall
                                    have hi : i < 14 := (Array.getElem?_eq_some_iff.1 ho).1
                                    rcases (by omega : i = 0 ∨ i = 1 ∨ i = 2 ∨ i = 3 ∨ i = 4 ∨ i = 5 ∨ i = 6 ∨ i = 7 ∨ i = 8 ∨ i = 9 ∨ i = 10 ∨ i = 11 ∨ i = 12 ∨ i = 13) with rfl | rfl | rfl | rfl | rfl | rfl | rfl | rfl | rfl | rfl | rfl | rfl | rfl | rfl
                                    all_goals
                                      simp only [List.getElem?_toArray, List.getElem?_cons_zero, List.getElem?_cons_succ, Option.some.injEq] at ho
                                      subst ho
                                    · as_aux_lemma =>
                                        have e9 : a'.eval (.tmp 9) = .pointer (some ⟨X9, 0, none⟩) := (hI.old (by decide)).trans ia.f9
                                        refine .inl ⟨wanted_free rfl, ?_⟩
                                        refine wp_value (w' := wx) ?_ (VS.step hI (d := 285) (by rw [ia.size]; kernel_rfl) (by decide) rfl (hI.world.step (by decide)) (Kept.refl _ _) noE_kept)
                                        (unfold execOp; simp only [List.map_toArray, List.map_cons, List.map_nil, e9]; (try simp [go_sem, e9]); try omega)
                                    · as_aux_lemma =>
                                        have e285 : a'.eval (.tmp 285) = .pointer (some ⟨X9, 8, none⟩) := hI.eval (k := 0) (by decide) (hall ⟨0, .data⟩ (by simp) rfl)
                                        refine .inl ⟨wanted_free rfl, ?_⟩
                                        have hwx := hI.world.before (by decide) hfi
                                        have hc : wx.cell? ⟨X9, 8, none⟩ = some (.slice (some ⟨g, 0, none⟩) (made x).stat.length n9) := by rw [hwx]; exact hy
                                        refine wp_value (w' := wx) ?_ (VS.step hI (d := 286) (by rw [ia.size]; kernel_rfl) (by decide) rfl (hI.world.step (by decide)) (Kept.refl _ _) noE_kept)
                                        (unfold execOp; simp only [List.map_toArray, List.map_cons, List.map_nil, e285, hc]; (try simp [go_sem, e285, hc]); try omega)
                                    · as_aux_lemma =>
                                        have e23 : a'.eval (.tmp 23) = .int .i64 (k : Int) := (hI.old (by decide)).trans hk17
                                        refine .inl ⟨wanted_free rfl, ?_⟩
                                        refine wp_value (w' := wx) ?_ (VS.step hI (d := 287) (by rw [ia.size]; kernel_rfl) (by decide) rfl (hI.world.step (by decide)) (Kept.refl _ _) noE_kept)
                                        (unfold execOp; simp only [List.map_toArray, List.map_cons, List.map_nil, e23]; (try simp [go_sem, e23]); try omega)
                                    · as_aux_lemma =>
                                        have e9 : a'.eval (.tmp 9) = .pointer (some ⟨X9, 0, none⟩) := (hI.old (by decide)).trans ia.f9
                                        refine .inl ⟨wanted_free rfl, ?_⟩
                                        refine wp_value (w' := wx) ?_ (VS.step hI (d := 288) (by rw [ia.size]; kernel_rfl) (by decide) rfl (hI.world.step (by decide)) (Kept.refl _ _) noE_kept)
                                        (unfold execOp; simp only [List.map_toArray, List.map_cons, List.map_nil, e9]; (try simp [go_sem, e9]); try omega)
                                    · as_aux_lemma =>
                                        have e288 : a'.eval (.tmp 288) = .pointer (some ⟨X9, 8, none⟩) := hI.eval (k := 3) (by decide) (hall ⟨3, .data⟩ (by simp) rfl)
                                        refine .inl ⟨wanted_free rfl, ?_⟩
                                        have hwx := hI.world.before (by decide) hfi
                                        have hc : wx.cell? ⟨X9, 8, none⟩ = some (.slice (some ⟨g, 0, none⟩) (made x).stat.length n9) := by rw [hwx]; exact hy
                                        refine wp_value (w' := wx) ?_ (VS.step hI (d := 289) (by rw [ia.size]; kernel_rfl) (by decide) rfl (hI.world.step (by decide)) (Kept.refl _ _) noE_kept)
                                        (unfold execOp; simp only [List.map_toArray, List.map_cons, List.map_nil, e288, hc]; (try simp [go_sem, e288, hc]); try omega)
                                    · as_aux_lemma =>
                                        have e23 : a'.eval (.tmp 23) = .int .i64 (k : Int) := (hI.old (by decide)).trans hk17
                                        refine .inl ⟨wanted_free rfl, ?_⟩
                                        refine wp_value (w' := wx) ?_ (VS.step hI (d := 290) (by rw [ia.size]; kernel_rfl) (by decide) rfl (hI.world.step (by decide)) (Kept.refl _ _) noE_kept)
                                        (unfold execOp; simp only [List.map_toArray, List.map_cons, List.map_nil, e23]; (try simp [go_sem, e23]); try omega)
                                    · as_aux_lemma =>
                                        have e289 : a'.eval (.tmp 289) = .slice (some ⟨g, 0, none⟩) (made x).stat.length n9 := hI.eval (k := 4) (by decide) (hall ⟨4, .data⟩ (by simp) rfl)
                                        have e290 : a'.eval (.tmp 290) = .int .i64 (k : Int) := hI.eval (k := 5) (by decide) (hall ⟨5, .data⟩ (by simp) rfl)
                                        refine .inl ⟨wanted_free rfl, ?_⟩
                                        refine wp_value (w' := wx) ?_ (VS.step hI (d := 291) (by rw [ia.size]; kernel_rfl) (by decide) rfl (hI.world.step (by decide)) (Kept.refl _ _) noE_kept)
                                        (unfold execOp; simp only [List.map_toArray, List.map_cons, List.map_nil, e289, e290, hki]; (try simp [go_sem, e289, e290, hki]); try omega)
                                    · as_aux_lemma =>
                                        have e291 : a'.eval (.tmp 291) = .pointer (some ⟨g, k * 8, none⟩) := hI.eval (k := 6) (by decide) (hall ⟨6, .data⟩ (by simp) rfl)
                                        refine .inl ⟨wanted_free rfl, ?_⟩
                                        refine wp_value (w' := wx) ?_ (VS.step hI (d := 292) (by rw [ia.size]; kernel_rfl) (by decide) rfl (hI.world.step (by decide)) (Kept.refl _ _) noE_kept)
                                        (unfold execOp; simp only [List.map_toArray, List.map_cons, List.map_nil, e291]; (try simp [go_sem, e291]); try omega)
                                    · as_aux_lemma =>
                                        have e292 : a'.eval (.tmp 292) = .pointer (some ⟨g, k * 8 + 7, none⟩) := hI.eval (k := 7) (by decide) (hall ⟨7, .data⟩ (by simp) rfl)
                                        refine .inl ⟨wanted_free rfl, ?_⟩
                                        have hwx := hI.world.before (by decide) hfi
                                        have hc : wx.cell? ⟨g, k * 8 + 7, none⟩ = some (.int .u32 (intAt p 7)) := by rw [hwx]; exact hcell
                                        refine wp_value (w' := wx) ?_ (VS.step hI (d := 293) (by rw [ia.size]; kernel_rfl) (by decide) rfl (hI.world.step (by decide)) (Kept.refl _ _) noE_kept)
                                        (unfold execOp; simp only [List.map_toArray, List.map_cons, List.map_nil, e292, hc]; (try simp [go_sem, e292, hc]); try omega)
                                    · as_aux_lemma =>
                                        have e293 : a'.eval (.tmp 293) = .int .u32 (intAt p 7) := hI.eval (k := 8) (by decide) (hall ⟨8, .data⟩ (by simp) rfl)
                                        refine .inl ⟨wanted_free rfl, ?_⟩
                                        refine wp_value (w' := wx) ?_ (VS.step hI (d := 294) (by rw [ia.size]; kernel_rfl) (by decide) rfl (hI.world.step (by decide)) (Kept.refl _ _) noE_kept)
                                        (unfold execOp; simp only [List.map_toArray, List.map_cons, List.map_nil, e293]; (try simp [go_sem, e293]); try omega)
                                    · as_aux_lemma =>
                                        have e286 : a'.eval (.tmp 286) = .slice (some ⟨g, 0, none⟩) (made x).stat.length n9 := hI.eval (k := 1) (by decide) (hall ⟨1, .data⟩ (by simp) rfl)
                                        have e287 : a'.eval (.tmp 287) = .int .i64 (k : Int) := hI.eval (k := 2) (by decide) (hall ⟨2, .data⟩ (by simp) rfl)
                                        refine .inl ⟨wanted_free rfl, ?_⟩
                                        refine wp_value (w' := wx) ?_ (VS.step hI (d := 295) (by rw [ia.size]; kernel_rfl) (by decide) rfl (hI.world.step (by decide)) (Kept.refl _ _) noE_kept)
                                        (unfold execOp; simp only [List.map_toArray, List.map_cons, List.map_nil, e286, e287, hki]; (try simp [go_sem, e286, e287, hki]); try omega)
                                    · as_aux_lemma =>
                                        have e295 : a'.eval (.tmp 295) = .pointer (some ⟨g, k * 8, none⟩) := hI.eval (k := 10) (by decide) (hall ⟨10, .data⟩ (by simp) rfl)
                                        refine .inl ⟨wanted_free rfl, ?_⟩
                                        refine wp_value (w' := wx) ?_ (VS.step hI (d := 296) (by rw [ia.size]; kernel_rfl) (by decide) rfl (hI.world.step (by decide)) (Kept.refl _ _) noE_kept)
                                        (unfold execOp; simp only [List.map_toArray, List.map_cons, List.map_nil, e295]; (try simp [go_sem, e295]); try omega)
                                    · as_aux_lemma =>
                                        have e296 : a'.eval (.tmp 296) = .pointer (some ⟨g, k * 8 + 7, none⟩) := hI.eval (k := 11) (by decide) (hall ⟨11, .data⟩ (by simp) rfl)
                                        have e294 : a'.eval (.tmp 294) = .int .u32 (bits .xor .u32 (intAt p 7) 1) := hI.eval (k := 9) (by decide) (hall ⟨9, .data⟩ (by simp) rfl)
                                        refine .inl ⟨wanted_free rfl, ?_⟩
                                        have hwx := hI.world.old hfi
                                        have hc : wx.cell? ⟨g, k * 8 + 7, none⟩ = some (.int .u32 (intAt p 7)) := by rw [hwx]; exact hcell
                                        have hz : wx.frozen? ⟨g, k * 8 + 7, none⟩ = false := by rw [hwx]; exact hfroz
                                        refine wp_skip (w' := wx.setCell ⟨g, k * 8 + 7, none⟩ (.int .u32 (bits .xor .u32 (intAt p 7) 1))) ?_ (hI.pass (by decide) (hI.world.store hfi (fun j hj => ?_)) (fun _ _ _ _ h => h))
                                        · (unfold execOp; simp only [List.map_toArray, List.map_cons, List.map_nil, e296, e294, hc, hz]; (try simp [go_sem, e296, e294, hc, hz]); try omega)
                                        · rcases (by omega : j = 0 ∨ j = 1 ∨ j = 2 ∨ j = 3 ∨ j = 4 ∨ j = 5 ∨ j = 6 ∨ j = 7 ∨ j = 8 ∨ j = 9) with rfl | rfl | rfl | rfl | rfl | rfl | rfl | rfl | rfl | rfl <;> exact hall ⟨_, .phase⟩ (by simp) rfl
                                    · as_aux_lemma =>
                                        refine .inl ⟨wanted_free rfl, ?_⟩
                                        refine wp_value (w' := wx) ?_ (VS.step hI (d := 15) (by rw [ia.size]; kernel_rfl) (by decide) rfl (hI.world.step (by decide)) (Kept.refl _ _) noE_kept)
                                        (unfold execOp; simp only [List.map_toArray, List.map_cons, List.map_nil]; (try simp [go_sem]); try omega)
                                  · intro f s3 wx hf hI
                                    have hwx := hI.world.new (hf 12 (by decide))
                                    have j15 : s3.eval (.tmp 15) = .bool true := hI.eval (k := 13) (by decide) (hf 13 (by decide))
                                    have ja := ia.keep hI (by decide)
                                    clear hI hf
                                    rw [hwx]
                                    clear hwx
                                    exact ⟨rfl, ja, true, j15, (CH.out.1.drew).setCell (fun h => by have h2 : g < wz.heap.size := h; omega) _, hturn.kept (Kept.refl _ _).drew⟩
                            · have hj1 : ¬ ((a : Int) % 4) = 3 := by omega
                              refine wp_region_plainG (by kernel_rfl) (Slots p3 ch38bD (valS (ch38bV (made x).stat.length a) noE) (fun _ w => w = wf2)) (Slots.start rfl) ?_ ?_
                              · intro f a' wx hI i o ho hfi hall
                                have hi : i < 7 := (Array.getElem?_eq_some_iff.1 ho).1
                                rcases (by omega : i = 0 ∨ i = 1 ∨ i = 2 ∨ i = 3 ∨ i = 4 ∨ i = 5 ∨ i = 6) with rfl | rfl | rfl | rfl | rfl | rfl | rfl
                                all_goals
                                  simp only [List.getElem?_toArray, List.getElem?_cons_zero, List.getElem?_cons_succ, Option.some.injEq] at ho
                                  subst ho
                                · as_aux_lemma =>
                                    have e22 : a'.eval (.tmp 22) = .int .i64 ((made x).stat.length : Int) := (hI.old (by decide)).trans gn
                                    refine .inl ⟨wanted_free rfl, ?_⟩
                                    refine wp_value (w' := wx) ?_ (VS.step hI (d := 273) (by rw [ga.size]; kernel_rfl) (by decide) rfl hI.world (Kept.refl _ _) noE_kept)
                                    (unfold execOp; simp only [List.map_toArray, List.map_cons, List.map_nil, e22]; (try simp [go_sem, e22]); try omega)
                                · as_aux_lemma =>
                                    have e273 : a'.eval (.tmp 273) = .int .i64 ((made x).stat.length : Int) := hI.eval (k := 0) (by decide) (hall ⟨0, .data⟩ (by simp) rfl)
                                    refine .inl ⟨wanted_free rfl, ?_⟩
                                    refine wp_value (w' := wx) ?_ (VS.step hI (d := 274) (by rw [ga.size]; kernel_rfl) (by decide) rfl hI.world (Kept.refl _ _) noE_kept)
                                    (unfold execOp; simp only [List.map_toArray, List.map_cons, List.map_nil, e273, hn1]; (try simp [go_sem, e273, hn1]); try omega)
                                · as_aux_lemma =>
                                    have e274 : a'.eval (.tmp 274) = .bool true := hI.eval (k := 1) (by decide) (hall ⟨1, .data⟩ (by simp) rfl)
                                    refine .inl ⟨wanted_free rfl, ?_⟩
                                    refine wp_value (w' := wx) ?_ (VS.step hI (d := 275) (by rw [ga.size]; kernel_rfl) (by decide) rfl hI.world (Kept.refl _ _) noE_kept)
                                    (unfold execOp; simp only [List.map_toArray, List.map_cons, List.map_nil, e274]; (try simp [go_sem, e274]); try omega)
                                · as_aux_lemma =>
                                    have e2 : a'.eval (.tmp 2) = .int .u8 (a : Int) := (hI.old (by decide)).trans ga.f2
                                    have e275 : a'.eval (.tmp 275) = .bool true := hI.eval (k := 2) (by decide) (hall ⟨2, .guard⟩ (by simp) rfl)
                                    refine .inl ⟨wanted_yes rfl (d := 275) rfl e275, ?_⟩
                                    refine wp_value (w' := wx) ?_ (VS.step hI (d := 276) (by rw [ga.size]; kernel_rfl) (by decide) rfl hI.world (Kept.refl _ _) noE_kept)
                                    (unfold execOp; simp only [List.map_toArray, List.map_cons, List.map_nil, e2]; (try simp [go_sem, e2]); try omega)
                                · as_aux_lemma =>
                                    have e276 : a'.eval (.tmp 276) = .int .u8 (a : Int) := hI.eval (k := 3) (by decide) (hall ⟨3, .data⟩ (by simp) rfl)
                                    have e275 : a'.eval (.tmp 275) = .bool true := hI.eval (k := 2) (by decide) (hall ⟨2, .guard⟩ (by simp) rfl)
                                    refine .inl ⟨wanted_yes rfl (d := 275) rfl e275, ?_⟩
                                    refine wp_value (w' := wx) ?_ (VS.step hI (d := 277) (by rw [ga.size]; kernel_rfl) (by decide) rfl hI.world (Kept.refl _ _) noE_kept)
                                    (unfold execOp; simp only [List.map_toArray, List.map_cons, List.map_nil, e276, hmod]; (try simp [go_sem, e276, hmod]); try omega)
                                · as_aux_lemma =>
                                    have e277 : a'.eval (.tmp 277) = .int .u8 ((a : Int) % 4) := hI.eval (k := 4) (by decide) (hall ⟨4, .data⟩ (by simp) rfl)
                                    have e275 : a'.eval (.tmp 275) = .bool true := hI.eval (k := 2) (by decide) (hall ⟨2, .guard⟩ (by simp) rfl)
                                    refine .inl ⟨wanted_yes rfl (d := 275) rfl e275, ?_⟩
                                    refine wp_value (w' := wx) ?_ (VS.step hI (d := 278) (by rw [ga.size]; kernel_rfl) (by decide) rfl hI.world (Kept.refl _ _) noE_kept)
                                    (unfold execOp; simp only [List.map_toArray, List.map_cons, List.map_nil, e277, hj1]; (try simp [go_sem, e277, hj1]); try omega)
                                · as_aux_lemma =>
                                    have e275 : a'.eval (.tmp 275) = .bool true := hI.eval (k := 2) (by decide) (hall ⟨2, .data⟩ (by simp) rfl)
                                    have e278 : a'.eval (.tmp 278) = .bool false := hI.eval (k := 5) (by decide) (hall ⟨5, .data⟩ (by simp) rfl)
                                    refine .inl ⟨wanted_free rfl, ?_⟩
                                    refine wp_value (w' := wx) ?_ (VS.step hI (d := 279) (by rw [ga.size]; kernel_rfl) (by decide) rfl hI.world (Kept.refl _ _) noE_kept)
                                    (unfold execOp; simp only [List.map_toArray, List.map_cons, List.map_nil, e275, e278]; (try simp [go_sem, e275, e278]); try omega)
                              · intro f q3 wx hf hI
                                have hwx := hI.world
                                have gc : q3.eval (.tmp 279) = .bool false := hI.eval (k := 6) (by decide) (hf 6 (by decide))
                                have h15 : q3.eval (.tmp 15) = .bool ch := (hI.old (by decide)).trans g15
                                have hn16 : q3.eval (.tmp 22) = .int .i64 ((made x).stat.length : Int) := (hI.old (by decide)).trans gn
                                have ha := ga.keep hI (by decide)
                                clear hI hf
                                rw [hwx]
                                clear hwx
                                change Code.wp _ _ _ _ _
                                refine wp_cond_false gc ?_
                                exact Go.wp_skip ⟨rfl, ha, ch, h15, CH.out.1, CH.out.2.up⟩
                          · have hn0 : ((made x).stat.length : Int) = 0 := by omega
                            refine wp_region_plainG (by kernel_rfl) (Slots p3 ch38aD (valS (ch38aV (made x).stat.length a) noE) (fun _ w => w = wf2)) (Slots.start rfl) ?_ ?_
                            · intro f a' wx hI i o ho hfi hall
                              have hi : i < 7 := (Array.getElem?_eq_some_iff.1 ho).1
                              rcases (by omega : i = 0 ∨ i = 1 ∨ i = 2 ∨ i = 3 ∨ i = 4 ∨ i = 5 ∨ i = 6) with rfl | rfl | rfl | rfl | rfl | rfl | rfl
                              all_goals
                                simp only [List.getElem?_toArray, List.getElem?_cons_zero, List.getElem?_cons_succ, Option.some.injEq] at ho
                                subst ho
                              · as_aux_lemma =>
                                  have e22 : a'.eval (.tmp 22) = .int .i64 ((made x).stat.length : Int) := (hI.old (by decide)).trans gn
                                  refine .inl ⟨wanted_free rfl, ?_⟩
                                  refine wp_value (w' := wx) ?_ (VS.step hI (d := 273) (by rw [ga.size]; kernel_rfl) (by decide) rfl hI.world (Kept.refl _ _) noE_kept)
                                  (unfold execOp; simp only [List.map_toArray, List.map_cons, List.map_nil, e22]; (try simp [go_sem, e22]); try omega)
                              · as_aux_lemma =>
                                  have e273 : a'.eval (.tmp 273) = .int .i64 ((made x).stat.length : Int) := hI.eval (k := 0) (by decide) (hall ⟨0, .data⟩ (by simp) rfl)
                                  refine .inl ⟨wanted_free rfl, ?_⟩
                                  refine wp_value (w' := wx) ?_ (VS.step hI (d := 274) (by rw [ga.size]; kernel_rfl) (by decide) rfl hI.world (Kept.refl _ _) noE_kept)
                                  (unfold execOp; simp only [List.map_toArray, List.map_cons, List.map_nil, e273, hn0]; (try simp [go_sem, e273, hn0]); try omega)
                              · as_aux_lemma =>
                                  have e274 : a'.eval (.tmp 274) = .bool false := hI.eval (k := 1) (by decide) (hall ⟨1, .data⟩ (by simp) rfl)
                                  refine .inl ⟨wanted_free rfl, ?_⟩
                                  refine wp_value (w' := wx) ?_ (VS.step hI (d := 275) (by rw [ga.size]; kernel_rfl) (by decide) rfl hI.world (Kept.refl _ _) noE_kept)
                                  (unfold execOp; simp only [List.map_toArray, List.map_cons, List.map_nil, e274]; (try simp [go_sem, e274]); try omega)
                              · as_aux_lemma =>
                                  have e275 : a'.eval (.tmp 275) = .bool false := hI.eval (k := 2) (by decide) (hall ⟨2, .guard⟩ (by simp) rfl)
                                  exact .inr ⟨wanted_no rfl (d := 275) rfl e275 (by decide), VS.step hI (d := 276) (by rw [ga.size]; kernel_rfl) (by decide) rfl hI.world (Kept.refl _ _) noE_kept⟩
                              · as_aux_lemma =>
                                  have e275 : a'.eval (.tmp 275) = .bool false := hI.eval (k := 2) (by decide) (hall ⟨2, .guard⟩ (by simp) rfl)
                                  exact .inr ⟨wanted_no rfl (d := 275) rfl e275 (by decide), VS.step hI (d := 277) (by rw [ga.size]; kernel_rfl) (by decide) rfl hI.world (Kept.refl _ _) noE_kept⟩
                              · as_aux_lemma =>
                                  have e275 : a'.eval (.tmp 275) = .bool false := hI.eval (k := 2) (by decide) (hall ⟨2, .guard⟩ (by simp) rfl)
                                  exact .inr ⟨wanted_no rfl (d := 275) rfl e275 (by decide), VS.step hI (d := 278) (by rw [ga.size]; kernel_rfl) (by decide) rfl hI.world (Kept.refl _ _) noE_kept⟩
                              · as_aux_lemma =>
                                  have e275 : a'.eval (.tmp 275) = .bool false := hI.eval (k := 2) (by decide) (hall ⟨2, .data⟩ (by simp) rfl)
                                  have e278 : a'.eval (.tmp 278) = undef := hI.eval (k := 5) (by decide) (hall ⟨5, .data⟩ (by simp) rfl)
                                  refine .inl ⟨wanted_free rfl, ?_⟩
                                  refine wp_value (w' := wx) ?_ (VS.step hI (d := 279) (by rw [ga.size]; kernel_rfl) (by decide) rfl hI.world (Kept.refl _ _) noE_kept)
                                  (unfold execOp; simp only [List.map_toArray, List.map_cons, List.map_nil, e275, e278]; (try simp [go_sem, e275, e278]); try omega)
                            · intro f q3 wx hf hI
                              have hwx := hI.world
                              have gc : q3.eval (.tmp 279) = .bool false := hI.eval (k := 6) (by decide) (hf 6 (by decide))
                              have h15 : q3.eval (.tmp 15) = .bool ch := (hI.old (by decide)).trans g15
                              have hn16 : q3.eval (.tmp 22) = .int .i64 ((made x).stat.length : Int) := (hI.old (by decide)).trans gn
                              have ha := ga.keep hI (by decide)
                              clear hI hf
                              rw [hwx]
                              clear hwx
                              change Code.wp _ _ _ _ _
                              refine wp_cond_false gc ?_
                              exact Go.wp_skip ⟨rfl, ha, ch, h15, CH.out.1, CH.out.2.up⟩
                      · clear f15 ta2 CH ch
                        rintro e t3 wf3 ⟨rfl, ta3, ch, f15, hk, hc⟩
                        have CH := Lib.hid (show Kept noB wz wf3 ∧ ChAt (made x) wz.heap.size X9 a (.slice A9 (made x).ports.length k9) (.slice B9 (made x).vlans.length m9) (.slice C9 (made x).stat.length n9) (.slice D9 (made x).fdb.length o9) 4 ch wf3 from ⟨hk, hc⟩)
                        clear hk hc
                        change Code.wp _ _ _ _ _
                        obtain ⟨hkf, c, cok, hcr, hct, hcb, hco, _⟩ := CH.out
                        have hsm : sameR (made x) c = !ch := by
                          cases ch with
                          | false => rw [hcr rfl, sameR_self MOK.out]; rfl
                          | true => rw [(hct rfl).2]; rfl
                        have st7 := STZ7.out.kept hkf
                        have at9 := hco.at cok
                        have q1 := fun W1 (hk : Kept noB wf3 W1) => same_calls (made x) c P V S F _ _ _ _ W1 MOK.out cok (st7.at'.kept hk) (at9.kept hk)
                        have q2 := fun W1 (hk : Kept noB wf3 W1) => QX.out W1 ((HKZ.out.no hkf).no hk)
                        have q3 := fun W1 (hk : Kept noB wf3 W1) P' V' S' F' (hat : RecAt W1 (made x) P' V' S' F') => same_calls (made x) (made x) P V S F P' V' S' F' W1 MOK.out MOK.out (st7.at'.kept hk) hat
                        simp only [hsm] at q1
                        simp only [sameR_self MOK.out] at q3
                        have k7 := st7.blk.range (xs := recC (made x) P V S F) (o := 0) (fun j v hv => by rwa [Nat.zero_add])
                        have kk9 := hcb.range (xs := recC c (.slice A9 (made x).ports.length k9) (.slice B9 (made x).vlans.length m9) (.slice C9 (made x).stat.length n9) (.slice D9 (made x).fdb.length o9)) (o := 0) (fun j v hv => by rwa [Nat.zero_add])
                        have kb := (HBZ.out.kept hkf (fun e => e)).range (xs := xc) (o := 0) (fun j v hv => by rwa [Nat.zero_add])
                        have sz7 : (Try.prog.info? 63).map (·.size) = some (recC (made x) P V S F).length := by rw [recC_len MOK.out]; exact sizeR
                        have sz9 : (Try.prog.info? 63).map (·.size) = some (recC c (.slice A9 (made x).ports.length k9) (.slice B9 (made x).vlans.length m9) (.slice C9 (made x).stat.length n9) (.slice D9 (made x).fdb.length o9)).length := by rw [recC_len cok]; exact sizeR
                        clear SZ7 SZ9 SZ8
                        have K7 := Lib.hid k7
                        have K9 := Lib.hid kk9
                        have KB := Lib.hid kb
                        have SZ7 := Lib.hid sz7
                        have SZ9 := Lib.hid sz9
                        have Q1 := Lib.hid q1
                        have Q2 := Lib.hid q2
                        have Q3 := Lib.hid q3
                        have HKF := Lib.hid (HKZ.out.no hkf)
                        clear hcr hct hcb hco hsm st7 at9 q1 q2 q3 k7 kk9 kb sz7 sz9 hkf CH s7 s9
                        generalize recC (made x) P V S F = s7 at *
                        generalize recC c (.slice A9 (made x).ports.length k9) (.slice B9 (made x).vlans.length m9) (.slice C9 (made x).stat.length n9) (.slice D9 (made x).fdb.length o9) = s9 at *
                        have hex := ms41E_kept wf3.heap.size x
                        refine wp_seq ?_
                        refine wp_region_invG (by kernel_rfl) (by kernel_rfl) (Slots t3 ms41D (valS (ms41V xc s7 s9 ch) (ms41E wf3.heap.size x)) (fun _ w => Kept noB wf3 w)) (Slots.start (Kept.refl _ _).drew) ?_ ?_
                        · intro f a' wx hI i o ho hfi hall
                          have hi : i < 13 := (Array.getElem?_eq_some_iff.1 ho).1
                          rcases (by omega : i = 0 ∨ i = 1 ∨ i = 2 ∨ i = 3 ∨ i = 4 ∨ i = 5 ∨ i = 6 ∨ i = 7 ∨ i = 8 ∨ i = 9 ∨ i = 10 ∨ i = 11 ∨ i = 12) with rfl | rfl | rfl | rfl | rfl | rfl | rfl | rfl | rfl | rfl | rfl | rfl | rfl
                          all_goals
                            simp only [List.getElem?_toArray, List.getElem?_cons_zero, List.getElem?_cons_succ, Option.some.injEq] at ho
                            subst ho
                          · as_aux_lemma =>
                              have hW := hI.world
                              refine .inl ⟨wanted_free rfl, ?_⟩
                              have e7 : a'.eval (.tmp 7) = .pointer (some ⟨X7, 0, none⟩) := (hI.old (by decide)).trans ta3.f7
                              exact wp_load_mid _ _ rfl X7 0 e7 s7 _ (rangeAt_kept K7.out hW (fun e => e)) Try.underlying63 rfl SZ7.out (VS.step hI (d := 297) (by rw [ta3.size]; kernel_rfl) (by decide) rfl (hW.no (Kept.refl _ _)) (Kept.refl _ _) hex)
                          · as_aux_lemma =>
                              have hW := hI.world
                              refine .inl ⟨wanted_free rfl, ?_⟩
                              have e9 : a'.eval (.tmp 9) = .pointer (some ⟨X9, 0, none⟩) := (hI.old (by decide)).trans ta3.f9
                              exact wp_load_mid _ _ rfl X9 0 e9 s9 _ (rangeAt_kept K9.out hW (fun e => e)) Try.underlying63 rfl SZ9.out (VS.step hI (d := 298) (by rw [ta3.size]; kernel_rfl) (by decide) rfl (hW.no (Kept.refl _ _)) (Kept.refl _ _) hex)
                          · as_aux_lemma =>
                              have hW := hI.world
                              refine .inl ⟨wanted_free rfl, ?_⟩
                              have e297 : a'.eval (.tmp 297) = .agg s7.toArray := hI.eval (k := 0) (by decide) (hall ⟨0, .data⟩ (by simp) rfl)
                              have e298 : a'.eval (.tmp 298) = .agg s9.toArray := hI.eval (k := 1) (by decide) (hall ⟨1, .data⟩ (by simp) rfl)
                              refine wp_go Try.func33 rfl rfl (args := #[.agg s7.toArray, .agg s9.toArray]) (by simp only [List.map_toArray, List.map_cons, List.map_nil, e297, e298]) ((Q1.out wx hW).mono ?_)
                              rintro e w' ⟨rfl, hk⟩
                              exact ⟨_, rfl, VS.step hI (d := 299) (by rw [ta3.size]; kernel_rfl) (by decide) rfl (hW.no hk) hk hex⟩
                          · as_aux_lemma =>
                              have hW := hI.world
                              refine .inl ⟨wanted_free rfl, ?_⟩
                              have e15 : a'.eval (.tmp 15) = .bool ch := (hI.old (by decide)).trans f15
                              refine wp_value (w' := wx) ?_ (VS.step hI (d := 300) (by rw [ta3.size]; kernel_rfl) (by decide) rfl (hW.no (Kept.refl _ _)) (Kept.refl _ _) hex)
                              (unfold execOp; simp only [List.map_toArray, List.map_cons, List.map_nil, e15]; (try simp [go_sem, e15]); try omega)
                          · as_aux_lemma =>
                              have hW := hI.world
                              refine .inl ⟨wanted_free rfl, ?_⟩
                              have e300 : a'.eval (.tmp 300) = .bool ch := hI.eval (k := 3) (by decide) (hall ⟨3, .data⟩ (by simp) rfl)
                              refine wp_value (w' := wx) ?_ (VS.step hI (d := 301) (by rw [ta3.size]; kernel_rfl) (by decide) rfl (hW.no (Kept.refl _ _)) (Kept.refl _ _) hex)
                              (unfold execOp; simp only [List.map_toArray, List.map_cons, List.map_nil, e300]; (try simp [go_sem, e300]); try omega)
                          · as_aux_lemma =>
                              have hW := hI.world
                              refine .inl ⟨wanted_free rfl, ?_⟩
                              have e299 : a'.eval (.tmp 299) = .bool (!ch) := hI.eval (k := 2) (by decide) (hall ⟨2, .data⟩ (by simp) rfl)
                              have e301 : a'.eval (.tmp 301) = .bool (!ch) := hI.eval (k := 4) (by decide) (hall ⟨4, .data⟩ (by simp) rfl)
                              refine wp_value (w' := wx) ?_ (VS.step hI (d := 302) (by rw [ta3.size]; kernel_rfl) (by decide) rfl (hW.no (Kept.refl _ _)) (Kept.refl _ _) hex)
                              (unfold execOp; simp only [List.map_toArray, List.map_cons, List.map_nil, e299, e301]; (try simp [go_sem, e299, e301]); try omega)
                          · as_aux_lemma =>
                              have hW := hI.world
                              refine .inl ⟨wanted_free rfl, ?_⟩
                              have e302 : a'.eval (.tmp 302) = .bool true := hI.eval (k := 5) (by decide) (hall ⟨5, .data⟩ (by simp) rfl)
                              refine wp_value (w' := wx) ?_ (VS.step hI (d := 303) (by rw [ta3.size]; kernel_rfl) (by decide) rfl (hW.no (Kept.refl _ _)) (Kept.refl _ _) hex)
                              (unfold execOp; simp only [List.map_toArray, List.map_cons, List.map_nil, e302]; (try simp [go_sem, e302]); try omega)
                          · as_aux_lemma =>
                              have hW := hI.world
                              have e303 : a'.eval (.tmp 303) = .bool true := hI.eval (k := 6) (by decide) (hall ⟨6, .guard⟩ (by simp) rfl)
                              refine .inl ⟨wanted_yes rfl (d := 303) rfl e303, ?_⟩
                              have e7 : a'.eval (.tmp 7) = .pointer (some ⟨X7, 0, none⟩) := (hI.old (by decide)).trans ta3.f7
                              exact wp_load_mid _ _ rfl X7 0 e7 s7 _ (rangeAt_kept K7.out hW (fun e => e)) Try.underlying63 rfl SZ7.out (VS.step hI (d := 304) (by rw [ta3.size]; kernel_rfl) (by decide) rfl (hW.no (Kept.refl _ _)) (Kept.refl _ _) hex)
                          · as_aux_lemma =>
                              have hW := hI.world
                              have e303 : a'.eval (.tmp 303) = .bool true := hI.eval (k := 6) (by decide) (hall ⟨6, .guard⟩ (by simp) rfl)
                              refine .inl ⟨wanted_yes rfl (d := 303) rfl e303, ?_⟩
                              have e3 : a'.eval (.tmp 3) = .pointer (some ⟨B, 0, none⟩) := (hI.old (by decide)).trans ta3.f3
                              exact wp_load_mid _ _ rfl B 0 e3 xc _ (rangeAt_kept KB.out hW (fun e => e)) Try.underlying53 rfl HSX.out (VS.step hI (d := 305) (by rw [ta3.size]; kernel_rfl) (by decide) rfl (hW.no (Kept.refl _ _)) (Kept.refl _ _) hex)
                          · as_aux_lemma =>
                              have hW := hI.world
                              have e303 : a'.eval (.tmp 303) = .bool true := hI.eval (k := 6) (by decide) (hall ⟨6, .guard⟩ (by simp) rfl)
                              refine .inl ⟨wanted_yes rfl (d := 303) rfl e303, ?_⟩
                              have e305 : a'.eval (.tmp 305) = .agg xc.toArray := hI.eval (k := 8) (by decide) (hall ⟨8, .data⟩ (by simp) rfl)
                              refine wp_go Try.func29 rfl rfl (args := #[.agg xc.toArray]) (by simp only [List.map_toArray, List.map_cons, List.map_nil, e305]) ((Q2.out wx hW).mono ?_)
                              rintro e w' ⟨P', V', S', F', rfl, own, hk⟩
                              exact ⟨_, rfl, VS.put hI (d := 306) (by rw [ta3.size]; kernel_rfl) (by decide) (fun _ _ => ⟨P', V', S', F', rfl, own.base hW.size⟩) (hW.no hk) hk hex⟩
                          · as_aux_lemma =>
                              have hW := hI.world
                              have e303 : a'.eval (.tmp 303) = .bool true := hI.eval (k := 6) (by decide) (hall ⟨6, .guard⟩ (by simp) rfl)
                              refine .inl ⟨wanted_yes rfl (d := 303) rfl e303, ?_⟩
                              have e304 : a'.eval (.tmp 304) = .agg s7.toArray := hI.eval (k := 7) (by decide) (hall ⟨7, .data⟩ (by simp) rfl)
                              have e306 := hI.eval (k := 9) (d := 306) (by decide) (hall ⟨9, .data⟩ (by simp) rfl)
                              obtain ⟨P', V', S', F', e306, own⟩ := e306 rfl
                              change a'.eval (.tmp 306) = _ at e306
                              refine wp_go Try.func33 rfl rfl (args := #[.agg s7.toArray, .agg (recC (made x) P' V' S' F').toArray]) (by simp only [List.map_toArray, List.map_cons, List.map_nil, e304, e306]) ((Q3.out wx hW P' V' S' F' (own.at MOK.out)).mono ?_)
                              rintro e w' ⟨rfl, hk⟩
                              exact ⟨_, rfl, VS.step hI (d := 307) (by rw [ta3.size]; kernel_rfl) (by decide) rfl (hW.no hk) hk hex⟩
                          · as_aux_lemma =>
                              have hW := hI.world
                              refine .inl ⟨wanted_free rfl, ?_⟩
                              have e303 : a'.eval (.tmp 303) = .bool true := hI.eval (k := 6) (by decide) (hall ⟨6, .data⟩ (by simp) rfl)
                              have e307 : a'.eval (.tmp 307) = .bool true := hI.eval (k := 10) (by decide) (hall ⟨10, .data⟩ (by simp) rfl)
                              refine wp_value (w' := wx) ?_ (VS.step hI (d := 308) (by rw [ta3.size]; kernel_rfl) (by decide) rfl (hW.no (Kept.refl _ _)) (Kept.refl _ _) hex)
                              (unfold execOp; simp only [List.map_toArray, List.map_cons, List.map_nil, e303, e307]; (try simp [go_sem, e303, e307]); try omega)
                          · as_aux_lemma =>
                              have hW := hI.world
                              refine .inl ⟨wanted_free rfl, ?_⟩
                              have e308 : a'.eval (.tmp 308) = .bool true := hI.eval (k := 11) (by decide) (hall ⟨11, .data⟩ (by simp) rfl)
                              refine wp_value (w' := wx) ?_ (VS.step hI (d := 6) (by rw [ta3.size]; kernel_rfl) (by decide) rfl (hW.no (Kept.refl _ _)) (Kept.refl _ _) hex)
                              (unfold execOp; simp only [List.map_toArray, List.map_cons, List.map_nil, e308]; (try simp [go_sem, e308]); try omega)
                        · intro f b9 wx hf hI
                          have e6 : b9.tmps.getD 6 undef = .bool true := hI.slot (12, 6) (by decide) (hf 12 (by decide))
                          have hd : b9.defers = [] := hI.defers.trans ta3.defs
                          have kz := HKF.out.no hI.world
                          clear hI hf
                          change Code.wp _ _ _ _ _
                          refine wp_ret ?_
                          (try simp only [Exit.inBlock, Exit.then])
                          refine bodyPost_ret (results_tmp rfl _ _ _) hd ?_
                          rw [e6]
                          exact ⟨rfl, kz⟩
end Go.Proofs.Ytngpfjmifaecjaa
