/- The reference's register: Cells. -/
import Derived.Test.YthpggeiacbdakaaDoorFrefA
import Derived.Deep.CutBlock
import Derived.StillTailTactics
namespace Go.Proofs.YthpggeiacbdakaaDoor
open Go.RowKit

set_option maxRecDepth 100000 in
set_option maxHeartbeats 3200000 in
theorem refcells_any {w : World} {X : Nat → Prop} {r : RF} {s : FS} (h : RefIn w X r s) (hk : s.ok) :
    Calls Tryd.prog 29 #[r.v] w fun e w' => ∃ v, e = .returned v ∧ IntsIn w' v s.mem ∧ Below w.heap.size w w' := by
  have hW6 := hk.w6
  have hW1 := hk.w1
  have hml : s.mem.length ≤ 50 := by
    have := hk.len
    omega
  unfold RF.v
  go_enter Tryd.func29, Tryd.ntmps29
  go_upto_region 0 with (fail)
  go_cut [1, 2] (fun p0 p1 wx => ∃ x, p0 = .pointer (some ⟨x, 0, none⟩) ∧ p1 = .slice none 0 0 ∧ Blk wx x 50 r.cells ∧ Below w.heap.size w wx)
  case first =>
    go_wp2_with fail
    go_meet
    exact ⟨_, rfl, rfl, Blk.new w _ _, below_alloc (Nat.le_refl _) _⟩
  case rest =>
    obtain ⟨x, rfl, rfl, hB, hb⟩ := hcut
    have k_0 : wc.cell? ⟨x, 1, none⟩ = some (.int .i64 (s.g 0 : Int)) := (hB.cell 1).trans (by rw [← h.La]; rfl)
    have k_1 : wc.cell? ⟨x, 2, none⟩ = some (.int .i64 (s.g 1 : Int)) := (hB.cell 2).trans (by rw [← h.Re]; rfl)
    have k_2 : wc.cell? ⟨x, 3, none⟩ = some (.int .i64 (s.g 2 : Int)) := (hB.cell 3).trans (by rw [← h.sl 0 (by omega)]; rfl)
    have k_3 : wc.cell? ⟨x, 4, none⟩ = some (.int .i64 (s.g 3 : Int)) := (hB.cell 4).trans (by rw [← h.sl 1 (by omega)]; rfl)
    have e0 := (hk.bit 0 (by omega)).1
    have e1 := (hk.bit 1 (by omega)).1
    have e2 := (hk.bit 2 (by omega)).1
    have e3 := (hk.bit 3 (by omega)).1
    have HO := Lib.hid (World.ownsRow_lit (base := wc.heap.size) (e := 3) (size := 1) wc #[.int .i64 (s.g 0 : Int), .int .i64 (s.g 1 : Int), .int .i64 (s.g 2 : Int), .int .i64 (s.g 3 : Int)] 4 (Nat.le_refl _) (by decide) rfl)
    have HT := Lib.hid (show #[Value.int .i64 (s.g 0 : Int), .int .i64 (s.g 1 : Int), .int .i64 (s.g 2 : Int), .int .i64 (s.g 3 : Int)].toList = nums (s.mem.take (4 + 0 * s.W)) from by
      rw [Nat.zero_mul, Nat.add_zero]
      have h4 : 4 ≤ s.mem.length := by have := hk.len; omega
      match hm : s.mem, h4 with
      | a :: b :: c :: d :: t, _ =>
        rw [hm] at e0 e1 e2 e3
        simp at e0 e1 e2 e3
        simp [nums, e0, e1, e2, e3])
    generalize (s.g 0 : Int) = g0 at *
    generalize (s.g 1 : Int) = g1 at *
    generalize (s.g 2 : Int) = g2 at *
    generalize (s.g 3 : Int) = g3 at *
    clear e0 e1 e2 e3
    have HB := Lib.hid hB
    have Hb := Lib.hid hb
    have HH := Lib.hid (And.intro h hk)
    have hxl := hB.lt
    clear h hk hB hb
    go_wp2_with fail
    go_loopw [3, 4] (fun v i wx => ∃ k : Nat, k ≤ 4 ∧ i = .int .i64 k ∧ wx.ownsRow wc.heap.size 3 1 v (4 + k * s.W) (nums (s.mem.take (4 + k * s.W))) ∧ Blk wx x 50 r.cells ∧ Below w.heap.size w wx ∧ wc.heap.size ≤ wx.heap.size) (fun _ i _ => 4 - (intOf i).toNat)
    case atStart => exact ⟨0, Nat.zero_le _, rfl, by rw [← HT.out]; simpa using HO.out, HB.out.alloc _, Hb.out.trans (below_alloc Hb.out.size _), by simp⟩
    case round =>
      clear HO HT HB k_0 k_1 k_2 k_3
      obtain ⟨k, hkP, rfl, ho, hB, hb, hs⟩ := hrel
      obtain ⟨Av, cv, rfl⟩ := own_form ho
      by_cases hlt : k < 4
      · have b1 : (k : Int) < 4 := by omega
        have b0 : (0 : Int) ≤ (k : Int) := by omega
        obtain ⟨p, q, hpq, hp, hq⟩ : ∃ p q : Nat, k = 2 * p + q ∧ p ≤ 1 ∧ q ≤ 1 := ⟨k / 2, k % 2, by omega, by omega, by omega⟩
        have t1 : (k : Int).tdiv 2 = (p : Int) := by rw [Int.tdiv_eq_ediv_of_nonneg b0]; omega
        have t2 : (k : Int).tmod 2 = (q : Int) := by rw [Int.tmod_eq_emod_of_nonneg b0]; omega
        have w1 : IntKind.i64.wrap (p : Int) = (p : Int) := by rw [IntKind.wrap_i64]; omega
        have w2 : IntKind.i64.wrap (q : Int) = (q : Int) := by rw [IntKind.wrap_i64]; omega
        have b2 : (p : Int) < 2 := by omega
        have b3 : (0 : Int) ≤ (p : Int) := by omega
        have b4 : (q : Int) < 2 := by omega
        have b5 : (0 : Int) ≤ (q : Int) := by omega
        have hrl := row_len HH.out.2 k hlt
        obtain ⟨Ad, cd, hdv, -⟩ := (HH.out.1.d k hlt).form
        have k_d : wr.cell? ⟨x, 5 + p * 2 + q, none⟩ = some (.slice Ad (s.row k).length cd) := (hB.cell _).trans (by rw [show 5 + p * 2 + q = 5 + k by omega, RF.cd _ _ (by omega), hdv])
        have HI := Lib.hid (show IntsIn wr (.slice Ad (s.row k).length cd) (s.row k) by
          have := ((HH.out.1.d k hlt).below hb).ints
          rw [hdv] at this
          exact this)
        have hin := row_in HH.out.2 k hlt
        have HTK := Lib.hid (show s.mem.take (4 + k * s.W) ++ s.row k = s.mem.take (4 + (k + 1) * s.W) from by
          rw [Nat.add_mul, Nat.one_mul, ← Nat.add_assoc]
          exact (List.take_add (l := s.mem) (i := 4 + k * s.W) (j := s.W)).symm)
        have hl0 : 0 < (s.row k).length := by omega
        have hl6 : 4 + k * s.W + (s.row k).length ≤ 65536 := by omega
        have HO := Lib.hid ho
        have HB := Lib.hid hB
        have Hb2 := Lib.hid hb
        have HS := Lib.hid hs
        have HRL := Lib.hid hrl
        clear ho hB hb hdv hrl hpq
        go_wp2_with (at_builtin; go_loud (refine app_more rfl _ _ rfl wc.heap.size (.slice Av (4 + k * s.W) cv) (4 + k * s.W) (s.mem.take (4 + k * s.W)) (s.row k) rfl HO.out _ rfl HI.out hl0 hl6 hs ?_))
        intro v' w2 ho2 hb2
        have HO2 := Lib.hid (show w2.ownsRow wc.heap.size 3 1 v' (4 + (k + 1) * s.W) (nums (s.mem.take (4 + (k + 1) * s.W))) from by
          have := ho2
          rw [HTK.out, HRL.out, show 4 + k * s.W + s.W = 4 + (k + 1) * s.W by rw [Nat.add_mul]; omega] at this
          exact this)
        have HB2 := Lib.hid (show Blk w2 x 50 r.cells from HB.out.of (hb2.block x hxl))
        have HS2 := Lib.hid (show wc.heap.size ≤ w2.heap.size from Nat.le_trans hs hb2.size)
        have Hb3 := Lib.hid (show Below w.heap.size w w2 from Hb2.out.trans (hb2.mono Hb.out.size))
        obtain ⟨A2, c2, rfl⟩ := own_form ho2
        clear ho2 hb2 HO HB
        go_wp2
        go_roundw
        case rel => exact ⟨k + 1, by omega, by go_num, HO2.out, HB2.out, Hb3.out, HS2.out⟩
        case measure => simp [intOf]; omega
      · obtain rfl : k = 4 := by omega
        have b1 : ¬ ((4 : Nat) : Int) < 4 := by omega
        have hI := IntsIn.of_own ho rfl
        rw [show s.mem.take (4 + 4 * s.W) = s.mem from List.take_of_length_le (by rw [HH.out.2.len]; exact Nat.le_refl _)] at hI
        have HI := Lib.hid hI
        have Hb2 := Lib.hid hb
        clear ho hB hb hI
        go_wp2
        go_ret
        exact ⟨_, rfl, HI.out, Hb2.out⟩
end Go.Proofs.YthpggeiacbdakaaDoor
