/- The reference's ring: Cells. -/
import Derived.Test.YtelfclcljdjohaaDoorRefB
import Derived.Test.YtelfclcljdjohaaDoorRefC
namespace Go.Proofs.YtelfclcljdjohaaDoor
open Go.RowKit

/-- append(row of the call's own, s..). -/
theorem app_more {W : World} {ops : Array Oper} {rest : List Oper} {o : Oper} {a : Act} {Q : Exit → Act → World → Prop} (hgd : o.guard = none) (s x : Operand)
    (ho : o.op = .call { callee := .builtin .append, args := #[s, x], argTypes := #[32, 32] }) (base : Nat) (v : Value) (n : Nat) (l0 l : List Int) (hs : a.eval s = v) (hown : W.ownsRow base 3 1 v n (nums l0)) (u : Value) (hx : a.eval x = u) (hu : IntsIn W u l) (h0 : 0 < l.length) (hl : n + l.length ≤ 65536) (hb : base ≤ W.heap.size)
    (h : ∀ v' w', w'.ownsRow base 3 1 v' (n + l.length) (nums (l0 ++ l)) → Below base W w' → wpList Tryd.prog ops Q rest (a.put o.dst v') w') : wpList Tryd.prog ops Q (o :: rest) a W := by
  obtain ⟨i0, hi, hz0, hz1, hz2⟩ := info_parts infoInt
  obtain ⟨A, c, rfl, hlc, k⟩ := hu
  obtain ⟨g, of, rfl, hcell⟩ := k h0
  refine wpList_append_own W hgd s x 32 ho base 3 i0 (.int .i64 0) 1 8 Tryd.underlying32 hi hz0 hz1 hz2 rfl (by decide) v n (nums l0) hs hown ⟨g, of, none⟩ l.length c (nums l) hx (by simp [nums]) ?_ (ints_oneCell _ _) ?_ ?_ hb ?_
  · intro j u hj
    have hjl : j < l.length := by have := (List.getElem?_eq_some_iff.1 hj).1; rwa [nums_len] at this
    rw [nums_get l j hjl] at hj
    have ha : (⟨g, of, none⟩ : Addr).add j = ⟨g, of + j, none⟩ := by unfold Addr.add; split <;> simp_all
    rw [ha, hcell j hjl, hj]
  · simp [maxLen]; omega
  · omega
  intro v' w' hown' hg _
  refine h v' w' (by simpa [nums] using hown') ((Below.refl _ W).grown hg hb (fun k hk => (hown.lt k hk).1))
set_option maxRecDepth 100000 in
set_option maxHeartbeats 3200000 in
theorem refcells_any {w : World} {X : Nat → Prop} {r : RF} {s : RS} (h : RefIn w X r s) (hk : s.ok) :
    Calls Tryd.prog 33 #[r.v] w fun e w' => ∃ v, e = .returned v ∧ IntsIn w' v s.mem ∧ Below w.heap.size w w' := by
  have hP8 := hk.p8
  have hW6 := hk.w6
  have hW1 := hk.w1
  have hml : s.mem.length ≤ 50 := by
    have := hk.len
    have : s.P * s.W ≤ 8 * 6 := Nat.mul_le_mul hk.p8 hk.w6
    omega
  unfold RF.v
  go_enter Tryd.func33, Tryd.ntmps33
  go_upto_region 0 with (fail)
  go_cut [1, 2] (fun p0 p1 wx => ∃ x, p0 = .pointer (some ⟨x, 0, none⟩) ∧ p1 = .slice none 0 0 ∧ Blk wx x 51 r.cells ∧ Below w.heap.size w wx)
  case first =>
    go_wp2_with fail
    go_meet
    exact ⟨_, rfl, rfl, Blk.new w _ _, below_alloc (Nat.le_refl _) _⟩
  case rest =>
    obtain ⟨x, rfl, rfl, hB, hb⟩ := hcut
    have k_H : wc.cell? ⟨x, 2, none⟩ = some (.int .i64 (s.hd : Int)) := (hB.cell 2).trans (by rw [← h.H]; rfl)
    have k_T : wc.cell? ⟨x, 3, none⟩ = some (.int .i64 (s.tl : Int)) := (hB.cell 3).trans (by rw [← h.T]; rfl)
    have HO := Lib.hid (World.ownsRow_lit (base := wc.heap.size) (e := 3) (size := 1) wc #[.int .i64 (s.hd : Int), .int .i64 (s.tl : Int)] 2 (Nat.le_refl _) (by decide) rfl)
    have HT := Lib.hid (show #[Value.int .i64 (s.hd : Int), .int .i64 (s.tl : Int)].toList = nums (s.mem.take (2 + 0 * s.W)) from by
      have := ok_len2 hk
      match hm : s.mem, this with
      | a :: b :: t, _ =>
        have e0 := hk.h
        have e1 := hk.t
        rw [hm] at e0 e1
        simp at e0 e1
        simp [nums, e0, e1])
    have HB := Lib.hid hB
    have Hb := Lib.hid hb
    have HH := Lib.hid (And.intro h hk)
    have hxl := hB.lt
    clear h hk hB hb
    go_wp2_with fail
    go_loopw [3, 4] (fun v i wx => ∃ k : Nat, k ≤ s.P ∧ i = .int .i64 k ∧ wx.ownsRow wc.heap.size 3 1 v (2 + k * s.W) (nums (s.mem.take (2 + k * s.W))) ∧ Blk wx x 51 r.cells ∧ Below w.heap.size w wx ∧ wc.heap.size ≤ wx.heap.size) (fun _ i _ => s.P - (intOf i).toNat)
    case atStart => exact ⟨0, Nat.zero_le _, rfl, by rw [← HT.out]; simpa using HO.out, HB.out.alloc _, Hb.out.trans (below_alloc Hb.out.size _), by simp⟩
    case round =>
      clear HO HT HB k_H k_T
      obtain ⟨k, hkP, rfl, ho, hB, hb, hs⟩ := hrel
      obtain ⟨Av, cv, rfl⟩ := own_form ho
      have k_D : wr.cell? ⟨x, 0, none⟩ = some (.int .i64 (s.P : Int)) := (hB.cell 0).trans (by rw [← HH.out.1.D]; rfl)
      by_cases hlt : k < s.P
      · have b1 : (k : Int) < (s.P : Int) := by omega
        have b0 : (0 : Int) ≤ (k : Int) := by omega
        have b8 : (k : Int) < 8 := by omega
        have hrl := row_len HH.out.2 k hlt
        obtain ⟨Ad, cd, hdv, -⟩ := (HH.out.1.d k hlt).form
        have k_d : wr.cell? ⟨x, 4 + k, none⟩ = some (.slice Ad (s.row k).length cd) := (hB.cell _).trans (by rw [RF.cd _ _ (by omega), hdv])
        have HI := Lib.hid (show IntsIn wr (.slice Ad (s.row k).length cd) (s.row k) by
          have := ((HH.out.1.d k hlt).below hb).ints
          rw [hdv] at this
          exact this)
        have hin := row_in HH.out.2 k hlt
        have HTK := Lib.hid (show s.mem.take (2 + k * s.W) ++ s.row k = s.mem.take (2 + (k + 1) * s.W) from by
          rw [Nat.add_mul, Nat.one_mul, ← Nat.add_assoc]
          exact (List.take_add (l := s.mem) (i := 2 + k * s.W) (j := s.W)).symm)
        have hl0 : 0 < (s.row k).length := by omega
        have hl6 : 2 + k * s.W + (s.row k).length ≤ 65536 := by omega
        have HO := Lib.hid ho
        have HB := Lib.hid hB
        have Hb2 := Lib.hid hb
        have HS := Lib.hid hs
        have HRL := Lib.hid hrl
        clear ho hB hb hdv hrl
        go_wp2_with (at_builtin; go_loud (refine app_more rfl _ _ rfl wc.heap.size (.slice Av (2 + k * s.W) cv) (2 + k * s.W) (s.mem.take (2 + k * s.W)) (s.row k) rfl HO.out _ rfl HI.out hl0 hl6 hs ?_))
        intro v' w2 ho2 hb2
        have HO2 := Lib.hid (show w2.ownsRow wc.heap.size 3 1 v' (2 + (k + 1) * s.W) (nums (s.mem.take (2 + (k + 1) * s.W))) from by
          have := ho2
          rw [HTK.out, HRL.out, show 2 + k * s.W + s.W = 2 + (k + 1) * s.W by rw [Nat.add_mul]; omega] at this
          exact this)
        have HB2 := Lib.hid (show Blk w2 x 51 r.cells from HB.out.of (hb2.block x hxl))
        have HS2 := Lib.hid (show wc.heap.size ≤ w2.heap.size from Nat.le_trans hs hb2.size)
        have Hb3 := Lib.hid (show Below w.heap.size w w2 from Hb2.out.trans (hb2.mono Hb.out.size))
        obtain ⟨A2, c2, rfl⟩ := own_form ho2
        clear ho2 hb2 HO HB
        go_wp2
        go_roundw
        case rel => exact ⟨k + 1, by omega, by go_num, HO2.out, HB2.out, Hb3.out, HS2.out⟩
        case measure => simp [intOf]; omega
      · obtain rfl : k = s.P := by omega
        have b1 : ¬ (s.P : Int) < (s.P : Int) := by omega
        have hI := IntsIn.of_own ho rfl
        rw [show s.mem.take (2 + s.P * s.W) = s.mem from List.take_of_length_le (by rw [HH.out.2.len]; exact Nat.le_refl _)] at hI
        have HI := Lib.hid hI
        have Hb2 := Lib.hid hb
        clear ho hB hb hI
        go_wp2
        go_ret
        exact ⟨_, rfl, HI.out, Hb2.out⟩
end Go.Proofs.YtelfclcljdjohaaDoor
