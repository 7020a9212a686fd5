/- A register of four slots: lives. -/
import Derived.Test.YthpggeiacbdakaaDoorFourJ
namespace Go.Proofs.YthpggeiacbdakaaDoor
open Go.RowKit

def itW (s : FS) : Nat → FS
  | 0 => s
  | k + 1 => (itW s k).stepW.1
def itR (s : FS) : Nat → FS
  | 0 => s
  | k + 1 => (itR s k).stepR.1
def liR (s : FS) : Nat → List Int
  | 0 => []
  | k + 1 => (itR s k).stepR.2.1
def y1 : FS := ((FS.new 1).wr [7]).1
def y2 : FS := y1.rd.1
theorem words1 : wordsOf 1 = 1 := by decide
theorem f1 : ((FS.new 1).wr [7]).2 = 0 := by decide
theorem f2 : y1.rd.2 = 0 := by decide
theorem f3 : y2.iw = 5 ∧ y2.ow = 4 := by decide
theorem f4 : liR (itW y2 5) 4 = [7] := by decide
set_option maxHeartbeats 3200000 in
theorem lives_any (w : World) : Calls Tryd.prog 9 #[] w fun e w' => e = .returned (.bool true) ∧ Below w.heap.size w w' := by
  go_enter Tryd.func9, Tryd.ntmps9
  go_wp2_with fail
  refine (ctx_new 1 (Below.refl w.heap.size w)).mono ?_
  rintro e w1 ⟨b, mb, lb, rfl, hB, hC⟩
  rw [words1] at hC
  have HC := Lib.hid hC
  clear hB hC
  go_wp2_with fail
  refine (ctx_wr (HC.out.below (below_alloc (Nat.le_refl _) _)) (ints_new _ _ 7) (by simp)).mono ?_
  rintro e w2 ⟨rfl, h2, -⟩
  rw [f1]
  have HC := Lib.hid (show Ctx w w2 b mb lb _ y1 from h2)
  clear h2
  go_wp2_with fail
  refine (ctx_rd HC.out).mono ?_
  rintro e w3 ⟨rfl, h2, -⟩
  rw [f2]
  have HC := Lib.hid (show Ctx w w3 b mb lb _ y2 from h2)
  clear h2
  go_wp2_with fail
  refine (ctx_left HC.out true).mono ?_
  rintro e w4 ⟨rfl, rfl⟩
  rw [show y2.left true = 5 from f3.1]
  go_wp2_with fail
  refine (ctx_left HC.out false).mono ?_
  rintro e w4 ⟨rfl, rfl⟩
  rw [show y2.left false = 4 from f3.2]
  go_wp2_with fail
  go_loopw [6] (fun i wx => ∃ k : Nat, k ≤ 5 ∧ i = .int .i64 k ∧ Ctx w wx b mb lb (fun _ => False) (itW y2 k)) (fun i _ => 5 - (intOf i).toNat)
  case atStart => exact ⟨0, by omega, rfl, HC.out⟩
  case round =>
    clear HC
    obtain ⟨k, hk, rfl, hC⟩ := hrel
    have HC := Lib.hid hC
    clear hC
    by_cases hlt : k < 5
    · have b1 : (k : Int) < 5 := by omega
      go_wp2_with fail
      refine (ctx_stepW HC.out).mono ?_
      rintro e w4 ⟨rfl, hC, -⟩
      have HC4 := Lib.hid (show Ctx w w4 b mb lb _ (itW y2 (k + 1)) from hC)
      clear hC HC
      go_wp2_with fail
      go_roundw
      case rel => exact ⟨k + 1, by omega, by go_num, HC4.out⟩
      case measure => simp [intOf]; omega
    · obtain rfl : k = 5 := by omega
      have b1 : ¬ ((5 : Nat) : Int) < 5 := by omega
      go_wp2_with fail
      go_loopw [7, 8, 9, 10, 11] (fun v i _ _ _ wx => ∃ k : Nat, k ≤ 4 ∧ i = .int .i64 k ∧ Ctx w wx b mb lb (fun _ => False) (itR (itW y2 5) k) ∧ IntsIn wx v (liR (itW y2 5) k)) (fun _ i _ _ _ _ => 4 - (intOf i).toNat)
      case atStart => exact ⟨0, by omega, rfl, HC.out, IntsIn.nil _⟩
      case round =>
        clear HC
        obtain ⟨k, hk, rfl, hC, hI⟩ := hrel
        have HC := Lib.hid hC
        by_cases hlt : k < 4
        · have b1 : (k : Int) < 4 := by omega
          clear hC hI
          go_wp2_with fail
          refine (ctx_stepR HC.out).mono ?_
          rintro e w4 ⟨v4, rfl, ⟨hC, -⟩, hI, -⟩
          have HC4 := Lib.hid (show Ctx w w4 b mb lb _ (itR (itW y2 5) (k + 1)) from hC)
          have HI := Lib.hid (show IntsIn w4 v4 (liR (itW y2 5) (k + 1)) from hI)
          obtain ⟨A4, c4, rfl⟩ := hI.form
          clear hC hI HC
          go_wp2_with fail
          go_roundw
          case rel => exact ⟨k + 1, by omega, by go_num, HC4.out, HI.out⟩
          case measure => simp [intOf]; omega
        · obtain rfl : k = 4 := by omega
          have b1 : ¬ ((4 : Nat) : Int) < 4 := by omega
          rw [f4] at hI
          obtain ⟨A4, c4, rfl⟩ := hI.form
          have HB := Lib.hid HC.out.bel
          have HSA := Lib.hid (same_yes (hI.below (below_alloc (Nat.le_refl _) (.cells #[.int .i64 7] 3))) (ints_new wr 3 7) (by simp))
          clear hC hI HC
          go_wp2_with fail
          refine HSA.out.mono ?_
          rintro e w5 ⟨rfl, n, rfl⟩
          have hb := HB.out.alloc HB.out.size (.cells #[.int .i64 7] 3)
          go_wp2
          go_ret
          exact ⟨rfl, below_drewN hb n⟩
end Go.Proofs.YthpggeiacbdakaaDoor
