/- The reference's register: Left. -/
import Derived.Test.YthpggeiacbdakaaDoorFrefB
import Derived.Deep.CutBlock
import Derived.StillTailTactics
namespace Go.Proofs.YthpggeiacbdakaaDoor
open Go.RowKit

set_option maxRecDepth 100000 in
set_option maxHeartbeats 3200000 in
theorem refleft_any {w : World} {X : Nat → Prop} {r : RF} {s : FS} (h : RefIn w X r s) (hk : s.ok) (b : Bool) :
    Calls Tryd.prog 27 #[r.v, .bool b] w fun e w' => e = .returned (.int .i64 (s.left b)) ∧ Below w.heap.size w w' := by
  have hW6 := hk.w6
  have hiw := hk.iw
  have how := hk.ow
  cases b
  · rw [show s.left false = s.ow from rfl]
    by_cases h0 : s.ow = 0
    · have hp : r.rd = false := by rw [h.rd]; simp [h0]
      rw [h0]
      unfold RF.v
      go_enter Tryd.func27, Tryd.ntmps27
      go_upto_region 0 with (fail)
      go_cut [2, 4] (fun p0 p1 wx => ∃ x, p0 = .pointer (some ⟨x, 0, none⟩) ∧ p1 = .int .i64 0 ∧ Blk wx x 50 r.cells ∧ Below w.heap.size w wx ∧ w.heap.size ≤ x)
      case first =>
        go_wp2_with fail
        go_meet
        exact ⟨_, rfl, rfl, Blk.new w _ _, below_alloc (Nat.le_refl _) _, Nat.le_refl _⟩
      case rest =>
        obtain ⟨x, rfl, rfl, hx, hb, hgx⟩ := hcut
        have k_rd : wc.cell? ⟨x, 10, none⟩ = some (.bool r.rd) := (hx.cell 10).trans rfl
        rw [hp] at k_rd
        have Hb := Lib.hid hb
        clear h hk hx hb hp
        go_wp2
        go_ret
        exact ⟨rfl, Hb.out⟩
    · have hp : r.rd = true := h.rdt h0
      have hm := h.se h0
      have hW := h.W
      unfold RF.v
      go_enter Tryd.func27, Tryd.ntmps27
      go_upto_region 0 with (fail)
      go_cut [2, 4] (fun p0 p1 wx => ∃ x, p0 = .pointer (some ⟨x, 0, none⟩) ∧ p1 = .int .i64 0 ∧ Blk wx x 50 r.cells ∧ Below w.heap.size w wx ∧ w.heap.size ≤ x)
      case first =>
        go_wp2_with fail
        go_meet
        exact ⟨_, rfl, rfl, Blk.new w _ _, below_alloc (Nat.le_refl _) _, Nat.le_refl _⟩
      case rest =>
        obtain ⟨x, rfl, rfl, hx, hb, hgx⟩ := hcut
        have k_rd : wc.cell? ⟨x, 10, none⟩ = some (.bool r.rd) := (hx.cell 10).trans rfl
        rw [hp] at k_rd
        have k_se : wc.cell? ⟨x, 12, none⟩ = some (.int .i64 r.se) := (hx.cell 12).trans rfl
        rw [hm] at k_se
        have k_W : wc.cell? ⟨x, 0, none⟩ = some (.int .i64 r.W) := (hx.cell 0).trans rfl
        rw [hW] at k_W
        obtain ⟨m, hmm⟩ : ∃ m : Nat, m = s.W + 3 - s.ow := ⟨_, rfl⟩
        rw [show (s.W : Int) + 3 - s.ow = (m : Int) by omega] at k_se
        have Hb := Lib.hid hb
        clear h hk hx hb hp hm hW
        go_wp2
        go_ret
        exact ⟨by simp; omega, Hb.out⟩
  · rw [show s.left true = s.iw from rfl]
    by_cases h0 : s.iw = 0
    · have hp : r.wr = false := by rw [h.wr]; simp [h0]
      rw [h0]
      unfold RF.v
      go_enter Tryd.func27, Tryd.ntmps27
      go_upto_region 0 with (fail)
      go_cut [2, 4] (fun p0 p1 wx => ∃ x, p0 = .pointer (some ⟨x, 0, none⟩) ∧ p1 = .int .i64 0 ∧ Blk wx x 50 r.cells ∧ Below w.heap.size w wx ∧ w.heap.size ≤ x)
      case first =>
        go_wp2_with fail
        go_meet
        exact ⟨_, rfl, rfl, Blk.new w _ _, below_alloc (Nat.le_refl _) _, Nat.le_refl _⟩
      case rest =>
        obtain ⟨x, rfl, rfl, hx, hb, hgx⟩ := hcut
        have k_wr : wc.cell? ⟨x, 9, none⟩ = some (.bool r.wr) := (hx.cell 9).trans rfl
        rw [hp] at k_wr
        have Hb := Lib.hid hb
        clear h hk hx hb hp
        go_wp2
        go_ret
        exact ⟨rfl, Hb.out⟩
    · have hp : r.wr = true := h.wrt h0
      have hm := h.ma h0
      have hW := h.W
      unfold RF.v
      go_enter Tryd.func27, Tryd.ntmps27
      go_upto_region 0 with (fail)
      go_cut [2, 4] (fun p0 p1 wx => ∃ x, p0 = .pointer (some ⟨x, 0, none⟩) ∧ p1 = .int .i64 0 ∧ Blk wx x 50 r.cells ∧ Below w.heap.size w wx ∧ w.heap.size ≤ x)
      case first =>
        go_wp2_with fail
        go_meet
        exact ⟨_, rfl, rfl, Blk.new w _ _, below_alloc (Nat.le_refl _) _, Nat.le_refl _⟩
      case rest =>
        obtain ⟨x, rfl, rfl, hx, hb, hgx⟩ := hcut
        have k_wr : wc.cell? ⟨x, 9, none⟩ = some (.bool r.wr) := (hx.cell 9).trans rfl
        rw [hp] at k_wr
        have k_ma : wc.cell? ⟨x, 11, none⟩ = some (.int .i64 r.ma) := (hx.cell 11).trans rfl
        rw [hm] at k_ma
        have k_W : wc.cell? ⟨x, 0, none⟩ = some (.int .i64 r.W) := (hx.cell 0).trans rfl
        rw [hW] at k_W
        obtain ⟨m, hmm⟩ : ∃ m : Nat, m = s.W + 4 - s.iw := ⟨_, rfl⟩
        rw [show (s.W : Int) + 4 - s.iw = (m : Int) by omega] at k_ma
        have Hb := Lib.hid hb
        clear h hk hx hb hp hm hW
        go_wp2
        go_ret
        exact ⟨by simp; omega, Hb.out⟩
end Go.Proofs.YthpggeiacbdakaaDoor
