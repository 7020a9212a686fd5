/- The register of three slots: New; the register as the laws see it. -/
import Derived.Test.YtdhbiogcaekbbaaDoorTripleG
import Derived.Deep.DeepCutAuto
namespace Go.Proofs.YtdhbiogcaekbbaaDoor
open Go.RowKit

def wordsOf (n : Int) : Nat := (min (max n 1) 6).toNat
theorem wordsOf_bd (n : Int) : 1 ≤ wordsOf n ∧ wordsOf n ≤ 6 := by unfold wordsOf; omega
def TS.new (W : Nat) : TS := { W := W, mem := List.replicate (1 + 3 * W) 0, ia := 0, io := 1, il := [], inn := 0, oa := 0, oo := 2, ol := [] }
theorem ok_new (W : Nat) (h1 : 1 ≤ W) (h6 : W ≤ 6) : (TS.new W).ok :=
  ⟨h1, h6, by simp [TS.new], by simp [TS.new], by simp [TS.new], .inl rfl, fun h => by simp [TS.new] at h, by simp [TS.new], fun h => by simp [TS.new] at h, by simp [TS.new], 0, by simp [TS.new, List.getElem?_replicate], by omega, by omega⟩
set_option maxRecDepth 100000 in
set_option maxHeartbeats 800000 in
theorem tnew_any (n : Int) (w : World) :
    Calls Tryd.prog 10 #[.int .i64 n] w fun e w' => ∃ b mb lb, e = .returned (.pointer (some ⟨b, 0, none⟩)) ∧ w.heap.size ≤ b ∧ w.heap.size ≤ mb ∧ w.heap.size ≤ lb ∧ TAt w' b mb lb (TS.new (wordsOf n)) (.slice none 0 0) (.slice none 0 0) 0 ∧ Below w.heap.size w w' := by
  have hwb := wordsOf_bd n
  have e0 : ((wordsOf n : Nat) : Int) = min (max n 1) 6 := by unfold wordsOf; omega
  generalize wordsOf n = W at *
  have HE := Lib.hid e0
  clear e0
  go_enter Tryd.func10, Tryd.ntmps10
  go_upto_region 1 with (fail)
  go_cut [0] (fun x wx => x = .int .i64 W ∧ wx = w)
  case first =>
    rcases (show n < 1 ∨ (1 ≤ n ∧ n ≤ 6) ∨ 6 < n by omega) with h | ⟨h, h'⟩ | h
    · rw [show min (max n 1) 6 = 1 from by omega] at HE
      go_wp2_with fail
      go_meet
      exact ⟨by rw [HE.out], rfl⟩
    · rw [show min (max n 1) 6 = n from by omega] at HE
      go_wp2_with fail
      go_meet
      exact ⟨by rw [HE.out], rfl⟩
    · rw [show min (max n 1) 6 = 6 from by omega] at HE
      go_wp2_with fail
      go_meet
      exact ⟨by rw [HE.out], rfl⟩
  case rest =>
    obtain ⟨rfl, rfl⟩ := hcut
    have ea := Lib.hid (show (1 : Int) + 3 * (W : Int) = ((1 + 3 * W : Nat) : Int) by omega)
    go_wp2_with fail
    rw [ea.out]
    refine (mnew_any (1 + 3 * W) wc (by omega)).mono ?_
    rintro e w1 ⟨rfl, hM, hB⟩
    have HM := Lib.hid hM
    have HB := Lib.hid hB
    have hsz : wc.heap.size ≤ w1.heap.size := hB.size
    have hbl := hM.m.lt
    have hll := hM.d.lt
    have hbn := Lib.hid (Blk.new w1 72 (regCells (TS.new W) (wc.heap.size + 1) (.slice none 0 0) (.slice none 0 0)))
    have HT := Lib.hid (show TAt (w1.alloc (.cells (regCells (TS.new W) (wc.heap.size + 1) (.slice none 0 0) (.slice none 0 0)) 72)) w1.heap.size (wc.heap.size + 1) wc.heap.size (TS.new W) (.slice none 0 0) (.slice none 0 0) 0 from
      ⟨hbn.out, ⟨HM.out.m.alloc _, HM.out.d.alloc _, HM.out.le⟩, IntsIn.nil _, ⟨IntsIn.nil _, none, rfl⟩, fun g hg => by simp [Value.ownBlock] at hg, fun g hg => by simp [Value.ownBlock] at hg, by simp [TS.new]⟩)
    have HB3 := Lib.hid (HB.out.alloc hsz (.cells (regCells (TS.new W) (wc.heap.size + 1) (.slice none 0 0) (.slice none 0 0)) 72))
    clear hM hB hbn hbl hll HM HB
    go_wp2_with fail
    go_ret
    exact ⟨_, _, _, rfl, hsz, by omega, Nat.le_refl _, HT.out, HB3.out⟩
end Go.Proofs.YtdhbiogcaekbbaaDoor
