/- Messages through a ring: Count. -/
import Derived.Test.YtelfclcljdjohaaDoorRingL
namespace Go.Proofs.YtelfclcljdjohaaDoor
open Go.RowKit

set_option maxRecDepth 100000 in
set_option maxHeartbeats 1600000 in
theorem count_any {w : World} {B b mb lb : Nat} {X : Nat → Prop} {s : RS} {vi vo : Value} {c : Int} (h : RAt w B b mb lb X s vi vo c) (hk : s.ok) :
    Calls Tryd.prog 14 #[.pointer (some ⟨b, 0, none⟩)] w fun e w' => e = .returned (.int .i64 (dist s.P s.tl s.hd)) ∧ Below w.heap.size w w' := by
  have c2 := h.c2
  have HA := Lib.hid (all_any h.m)
  have H := Lib.hid h
  have hP1 := hk.p1
  have hP8 := hk.p8
  have ht2 := hk.t2
  have hh2 := hk.h2
  have hp : 1 < s.mem.length := by
    have := hk.len
    have : 1 * 1 ≤ s.P * s.W := Nat.mul_le_mul hk.p1 hk.w1
    omega
  have e0 := hd_get hk (by omega)
  have e1 := tl_get hk hp
  clear h hk
  go_enter Tryd.func14, Tryd.ntmps14
  go_wp2_with fail
  refine HA.out.mono ?_
  rintro e w' ⟨v', rfl, ho, hb⟩
  obtain ⟨g, cap, rfl, -, -, hnc, hcell, -⟩ := own_pos ho (by omega)
  have k0 := hcell 0 (by omega)
  have k1 := hcell 1 (by omega)
  rw [nums_get _ _ (by omega), e0] at k0
  rw [nums_get _ _ (by omega), e1] at k1
  have d0 := (H.out.below hb).c0
  have HB := Lib.hid hb
  have hp0 : 0 < s.mem.length := by omega
  clear ho hcell HA H e0 e1 c2 hb
  generalize s.mem.length = n at *
  have b0 : (0 : Int) < (n : Int) := by omega
  have b1 : (1 : Int) < (n : Int) := by omega
  have hw : IntKind.i64.wrap ((s.tl : Int) - (s.hd : Int)) = (s.tl : Int) - (s.hd : Int) := by rw [IntKind.wrap_i64]; omega
  go_wp2_with fail
  go_quiet ((go_at_call 36; exact Calls.quiet_of (round_any s.P _ (cell_heap d0 rfl) hP1 hP8 (by omega) (by omega))))
  go_wp2
  go_ret
  exact ⟨rfl, below_drewN HB.out nq⟩
end Go.Proofs.YtelfclcljdjohaaDoor
