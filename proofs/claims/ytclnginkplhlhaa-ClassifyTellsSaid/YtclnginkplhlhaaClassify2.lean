/- The walks of the statements of layer 11: their first lines. Conditions: the numbers are of their kinds. -/
import Derived.Test.YtclnginkplhlhaaClassify
import Derived.Test.YtclnginkplhlhaaOfPorts
namespace Go.Proofs.Ytclnginkplhlhaa
open Go.RowKit Go.Maps
def memN (D : DataW Unit) (k : Int) : Nat := (getN D k).2.1.toNat
theorem ingress_tbl {w0 w : World} {g n : Nat} {D : DataW Unit} (h : Tbl w0 w g n D) (pvid acc : Int) (filt : Bool) (num : Int) (x : Fr) (hp0 : 0 ≤ pvid) (hp1 : pvid < 65536) (hv : x.vid < 65536) :
    Calls Try.prog 16 #[pV pvid acc filt, .int .i64 num, frV x, .pointer (some ⟨g, 0, none⟩)] w fun e w' => e = .returned (.tuple #[.int .u16 (ingA (ingC (memN D (ingV pvid x.tg x.vid)) (getB D (ingV pvid x.tg x.vid)) acc filt num (ownB x.tg x.vid)) (ingV pvid x.tg x.vid)), .int .i64 (ingC (memN D (ingV pvid x.tg x.vid)) (getB D (ingV pvid x.tg x.vid)) acc filt num (ownB x.tg x.vid))]) ∧ Kept noB w w' := by
  have hk0 : 0 ≤ ingV pvid x.tg x.vid ∧ ingV pvid x.tg x.vid < 65536 := by
    unfold ingV
    split <;> omega
  have hok := getN_ok h hk0.1 hk0.2
  have hm : (getN D (ingV pvid x.tg x.vid)).2.1 = ((memN D (ingV pvid x.tg x.vid) : Nat) : Int) := by rw [memN, Int.toNat_of_nonneg hok.2.2.1]
  refine ingress_any pvid acc filt num x _ w (getN D (ingV pvid x.tg x.vid)).1 (getN D (ingV pvid x.tg x.vid)).2.2 _ _ (by have := hok.2.2.2.1; rw [hm] at this; omega) (fun w1 hk => ?_)
  have := get_calls (h.kept hk) (ingV pvid x.tg x.vid) hk0.1 hk0.2
  rw [hm] at this
  exact this
theorem ingress_nil (pvid acc : Int) (filt : Bool) (num : Int) (x : Fr) (w : World) :
    Calls Try.prog 16 #[pV pvid acc filt, .int .i64 num, frV x, .pointer none] w fun e w' => e = .returned (.tuple #[.int .u16 (ingA (ingC 0 false acc filt num (ownB x.tg x.vid)) (ingV pvid x.tg x.vid)), .int .i64 (ingC 0 false acc filt num (ownB x.tg x.vid))]) ∧ Kept noB w w' :=
  ingress_any pvid acc filt num x _ w 0 0 0 false (by omega) (fun w1 hk => get_nil _ w1)
end Go.Proofs.Ytclnginkplhlhaa
