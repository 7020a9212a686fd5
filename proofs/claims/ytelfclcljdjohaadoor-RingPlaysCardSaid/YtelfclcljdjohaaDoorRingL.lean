/- Messages through a ring: New. -/
import Derived.Test.YtelfclcljdjohaaDoorRingK
import Derived.Deep.DeepCutAuto
namespace Go.Proofs.YtelfclcljdjohaaDoor
open Go.RowKit

def placesOf (n : Int) : Nat := (min (max n 1) 8).toNat
def wordsOf (n : Int) : Nat := (min (max n 1) 6).toNat
theorem placesOf_bd (n : Int) : 1 ≤ placesOf n ∧ placesOf n ≤ 8 := by unfold placesOf; omega
theorem wordsOf_bd (n : Int) : 1 ≤ wordsOf n ∧ wordsOf n ≤ 6 := by unfold wordsOf; omega
def RS.new (P W : Nat) : RS := { P := P, W := W, mem := List.replicate (2 + P * W) 0, ia := 0, ih := 0, it := 0, il := [], inn := 0, oa := 0, oh := 0, ot := 0, ol := [] }
theorem clamp_first (n hi : Int) (h : 1 ≤ hi) : n < 1 ∧ min (max n 1) hi = 1 ∨ 1 ≤ n ∧ n ≤ hi ∧ min (max n 1) hi = n ∨ hi < n ∧ min (max n 1) hi = hi := by omega
set_option maxRecDepth 100000 in
set_option maxHeartbeats 1600000 in
theorem rnew_any (n m : Int) (B : Nat) (w : World) (hB : B ≤ w.heap.size) :
    Calls Tryd.prog 10 #[.int .i64 n, .int .i64 m] w fun e w' => ∃ b mb lb, e = .returned (.pointer (some ⟨b, 0, none⟩)) ∧ w.heap.size ≤ b ∧ w.heap.size ≤ mb ∧ w.heap.size ≤ lb ∧ b < w'.heap.size ∧ RAt w' B b mb lb (fun _ => False) (RS.new (placesOf n) (wordsOf m)) (.slice none 0 0) (.slice none 0 0) 0 ∧ Below w.heap.size w w' := by
  have hp := placesOf_bd n
  have hw := wordsOf_bd m
  have e0 : ((placesOf n : Nat) : Int) = min (max n 1) 8 := by unfold placesOf; omega
  have e1 : ((wordsOf m : Nat) : Int) = min (max m 1) 6 := by unfold wordsOf; omega
  generalize placesOf n = P at *
  generalize wordsOf m = W at *
  have HE := Lib.hid (And.intro e0 e1)
  clear e0 e1
  go_enter Tryd.func10, Tryd.ntmps10
  go_upto_region 1 with (fail)
  go_cut [0, 1] (fun x y wx => x = .int .i64 P ∧ y = .int .i64 W ∧ wx = w)
  case first =>
    rcases clamp_first n 8 (by omega) with ⟨h1, e1⟩ | ⟨h1, h2, e1⟩ | ⟨h1, e1⟩ <;> rcases clamp_first m 6 (by omega) with ⟨g1, f1⟩ | ⟨g1, g2, f1⟩ | ⟨g1, f1⟩
    all_goals
      rw [e1, f1] at HE
      clear e1 f1
      go_wp2_with fail
      go_meet
      exact ⟨by rw [HE.out.1], by rw [HE.out.2], rfl⟩
  case rest =>
    obtain ⟨rfl, rfl, rfl⟩ := hcut
    have hpw : P * W ≤ 8 * 6 := Nat.mul_le_mul hp.2 hw.2
    have hw1 : IntKind.i64.wrap ((P : Int) * (W : Int)) = ((P * W : Nat) : Int) := by rw [← Int.natCast_mul, IntKind.wrap_i64]; omega
    have hm1 := Lib.hid (show (P : Int) * (W : Int) = ((P * W : Nat) : Int) by rw [Int.natCast_mul])
    have b0 : (P : Int) * (W : Int) ≤ 48 := by rw [hm1.out]; omega
    have b1 : 0 ≤ (P : Int) * (W : Int) := by rw [hm1.out]; omega
    have hn := Lib.hid (show 2 + P * W ≤ 4096 by omega)
    have ea := Lib.hid (show (2 : Int) + (P : Int) * (W : Int) = ((2 + P * W : Nat) : Int) by rw [hm1.out]; omega)
    go_wp2_with fail
    rw [ea.out]
    refine (mnew_any (2 + P * W) wc hn.out).mono ?_
    rintro e w1 ⟨rfl, hM, hB1⟩
    have hsz : wc.heap.size ≤ w1.heap.size := hB1.size
    have hbl := hM.m.lt
    have hll := hM.d.lt
    have hnew := Blk.new w1 70 (ringCells (RS.new P W) w1.heap.size (wc.heap.size + 1) (.slice none 0 0) (.slice none 0 0))
    have HT := Lib.hid (show RAt (w1.alloc (.cells (ringCells (RS.new P W) w1.heap.size (wc.heap.size + 1) (.slice none 0 0) (.slice none 0 0)) 70)) B w1.heap.size (wc.heap.size + 1) wc.heap.size (fun _ => False) (RS.new P W) (.slice none 0 0) (.slice none 0 0) 0 from
      ⟨hnew, ⟨hM.m.alloc _, hM.d.alloc _, hM.le⟩, World.ownsRow_nil _ _ _ _, World.ownsRow_nil _ _ _ _, fun g hg => by simp [Value.ownBlock] at hg, fun g hg => by simp [Value.ownBlock] at hg, fun _ _ e => e, fun _ _ e => e, fun _ e => e.elim⟩)
    have HB3 := Lib.hid (hB1.alloc hsz (.cells (ringCells (RS.new P W) w1.heap.size (wc.heap.size + 1) (.slice none 0 0) (.slice none 0 0)) 70))
    have hlt : w1.heap.size < (w1.alloc (.cells (ringCells (RS.new P W) w1.heap.size (wc.heap.size + 1) (.slice none 0 0) (.slice none 0 0)) 70)).heap.size := by simp
    have HL := Lib.hid hlt
    clear hM hB1 hnew hbl hll hlt
    go_wp2_with fail
    go_ret
    exact ⟨_, _, _, rfl, hsz, by omega, Nat.le_refl _, HL.out, HT.out, HB3.out⟩
end Go.Proofs.YtelfclcljdjohaaDoor
