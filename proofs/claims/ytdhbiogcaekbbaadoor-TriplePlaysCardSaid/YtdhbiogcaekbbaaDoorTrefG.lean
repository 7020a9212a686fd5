/- The reference's register: Cells, New; Step as one. -/
import Derived.Test.YtdhbiogcaekbbaaDoorTrefC
import Derived.Test.YtdhbiogcaekbbaaDoorTrefD
import Derived.Test.YtdhbiogcaekbbaaDoorTrefE
import Derived.Test.YtdhbiogcaekbbaaDoorTrefF
namespace Go.Proofs.YtdhbiogcaekbbaaDoor
open Go.RowKit

theorem tstep_any {w : World} {X : Nat → Prop} {r : RF} {s : TS} (h : RefIn w X r s) (hf : s.fine) (b : Bool) :
    Calls Tryd.prog 26 #[r.v, .bool b] w fun e w' => ∃ r' A c, e = .returned (.tuple #[RF.v r', .slice A (s.step b).2.1.length c, .bool (s.step b).2.2.1, .int .i64 (s.step b).2.2.2]) ∧ Below w.heap.size w w' ∧ RefIn w' (newX X w w') r' (s.step b).1 ∧ IntsX w' (newX X w w') (.slice A (s.step b).2.1.length c) (s.step b).2.1 := by
  cases b
  · by_cases h0 : s.oa = 0
    · exact tstep4 h hf h0
    by_cases h1 : s.oa = 1
    · exact tstep5 h hf h1
    by_cases h2 : s.oa = 2
    · exact tstep6 h hf h2
    have h3 : s.oa = 3 := by have := hf.ok.oa; omega
    by_cases hn : s.ol.length + 1 < s.W
    · exact tstep7 h hf h3 hn
    · exact tstep8 h hf h3 hn
  · by_cases h0 : s.ia = 0
    · exact tstep1 h hf h0
    by_cases hn : s.inn < s.W
    · exact tstep2 h hf h0 hn
    · exact tstep3 h hf h0 hn
set_option maxRecDepth 100000 in
set_option maxHeartbeats 3200000 in
theorem refcells_any {w : World} {X : Nat → Prop} {r : RF} {s : TS} (h : RefIn w X r s) (hf : s.fine) :
    Calls Tryd.prog 30 #[r.v] w fun e w' => ∃ v, e = .returned v ∧ IntsIn w' v s.mem ∧ Below w.heap.size w w' := by
  have hk := hf.ok
  have hW6 := hk.w6
  have hW1 := hk.w1
  have hml : s.mem.length ≤ 50 := by
    have := hk.len
    omega
  unfold RF.v
  go_enter Tryd.func30, Tryd.ntmps30
  go_upto_region 0 with (fail)
  go_cut [1, 2] (fun p0 p1 wx => ∃ x, p0 = .pointer (some ⟨x, 0, none⟩) ∧ p1 = .slice none 0 0 ∧ Blk wx x 50 r.cells ∧ Below w.heap.size w wx)
  case first =>
    go_wp2_with fail
    go_meet
    exact ⟨_, rfl, rfl, Blk.new w _ _, below_alloc (Nat.le_refl _) _⟩
  case rest =>
    obtain ⟨x, rfl, rfl, hB, hb⟩ := hcut
    have k_M : wc.cell? ⟨x, 1, none⟩ = some (.int .i64 (s.mid : Int)) := (hB.cell 1).trans (by rw [← h.Mi]; rfl)
    have HO := Lib.hid (World.ownsRow_lit (base := wc.heap.size) (e := 3) (size := 1) wc #[.int .i64 (s.mid : Int)] 1 (Nat.le_refl _) (by decide) rfl)
    have HT := Lib.hid (show #[Value.int .i64 (s.mid : Int)].toList = nums (s.mem.take (1 + 0 * s.W)) from by
      have h4 : 1 ≤ s.mem.length := by have := hk.len; omega
      have e0 := (ok_mid hk).1
      match hm : s.mem, h4 with
      | a :: t, _ =>
        rw [hm] at e0
        simp at e0
        simp [nums, e0])
    have HB := Lib.hid hB
    have Hb := Lib.hid hb
    have HH := Lib.hid (And.intro h hk)
    have hxl := hB.lt
    clear h hk hf hB hb
    go_wp2_with fail
    go_loopw [3, 4] (fun v i wx => ∃ k : Nat, k ≤ 3 ∧ i = .int .i64 k ∧ wx.ownsRow wc.heap.size 3 1 v (1 + k * s.W) (nums (s.mem.take (1 + k * s.W))) ∧ Blk wx x 50 r.cells ∧ Below w.heap.size w wx ∧ wc.heap.size ≤ wx.heap.size) (fun _ i _ => 3 - (intOf i).toNat)
    case atStart => exact ⟨0, Nat.zero_le _, rfl, by rw [← HT.out]; simpa using HO.out, HB.out.alloc _, Hb.out.trans (below_alloc Hb.out.size _), by simp⟩
    case round =>
      clear HO HT HB k_M
      obtain ⟨k, hkP, rfl, ho, hB, hb, hs⟩ := hrel
      obtain ⟨Av, cv, rfl⟩ := own_form ho
      by_cases hlt : k < 3
      · have b1 : (k : Int) < 3 := by omega
        have b0 : (0 : Int) ≤ (k : Int) := by omega
        have hrl := row_len HH.out.2 k hlt
        obtain ⟨Ad, cd, hdv, -⟩ := (HH.out.1.d k hlt).form
        have k_d : wr.cell? ⟨x, 2 + k, none⟩ = some (.slice Ad (s.row k).length cd) := (hB.cell _).trans (by rw [RF.cd _ _ (by omega), hdv])
        have HI := Lib.hid (show IntsIn wr (.slice Ad (s.row k).length cd) (s.row k) by
          have := ((HH.out.1.d k hlt).below hb).ints
          rw [hdv] at this
          exact this)
        have hin := row_in HH.out.2 k hlt
        have HTK := Lib.hid (show s.mem.take (1 + k * s.W) ++ s.row k = s.mem.take (1 + (k + 1) * s.W) from by
          rw [Nat.add_mul, Nat.one_mul, ← Nat.add_assoc]
          exact (List.take_add (l := s.mem) (i := 1 + k * s.W) (j := s.W)).symm)
        have hl0 : 0 < (s.row k).length := by omega
        have hl6 : 1 + k * s.W + (s.row k).length ≤ 65536 := by omega
        have HO := Lib.hid ho
        have HB := Lib.hid hB
        have Hb2 := Lib.hid hb
        have HS := Lib.hid hs
        have HRL := Lib.hid hrl
        clear ho hB hb hdv hrl
        go_wp2_with (at_builtin; go_loud (refine app_more rfl _ _ rfl wc.heap.size (.slice Av (1 + k * s.W) cv) (1 + k * s.W) (s.mem.take (1 + k * s.W)) (s.row k) rfl HO.out _ rfl HI.out hl0 hl6 hs ?_))
        intro v' w2 ho2 hb2
        have HO2 := Lib.hid (show w2.ownsRow wc.heap.size 3 1 v' (1 + (k + 1) * s.W) (nums (s.mem.take (1 + (k + 1) * s.W))) from by
          have := ho2
          rw [HTK.out, HRL.out, show 1 + k * s.W + s.W = 1 + (k + 1) * s.W by rw [Nat.add_mul]; omega] at this
          exact this)
        have HB2 := Lib.hid (show Blk w2 x 50 r.cells from HB.out.of (hb2.block x hxl))
        have HS2 := Lib.hid (show wc.heap.size ≤ w2.heap.size from Nat.le_trans hs hb2.size)
        have Hb3 := Lib.hid (show Below w.heap.size w w2 from Hb2.out.trans (hb2.mono Hb.out.size))
        obtain ⟨A2, c2, rfl⟩ := own_form ho2
        clear ho2 hb2 HO HB
        go_wp2
        go_roundw
        case rel => exact ⟨k + 1, by omega, by go_num, HO2.out, HB2.out, Hb3.out, HS2.out⟩
        case measure => simp [intOf]; omega
      · obtain rfl : k = 3 := by omega
        have b1 : ¬ ((3 : Nat) : Int) < 3 := by omega
        have hI := IntsIn.of_own ho rfl
        rw [show s.mem.take (1 + 3 * s.W) = s.mem from List.take_of_length_le (by rw [HH.out.2.len]; exact Nat.le_refl _)] at hI
        have HI := Lib.hid hI
        have Hb2 := Lib.hid hb
        clear ho hB hb hI
        go_wp2
        go_ret
        exact ⟨_, rfl, HI.out, Hb2.out⟩
end Go.Proofs.YtdhbiogcaekbbaaDoor
