/- SampleEmpty: ahead of a first write that is over nothing is there. -/
import Derived.Test.YtmcelldklmjlkaaDoorSampH
namespace Go.Proofs.YtmcelldklmjlkaaDoor
open Go.RowKit

theorem mod_nat (c : Int) (m : Nat) (hm : 0 < m ∧ m ≤ 2147483648) : ∃ n : Nat, n < m ∧ wrap64 ((IntKind.u64.wrap c).tmod m) = (n : Int) := by
  rw [IntKind.wrap_u64, Int.tmod_eq_emod_of_nonneg (by omega)]
  have h1 := Int.emod_nonneg (c % 18446744073709551616) (show (m : Int) ≠ 0 by omega)
  have h2 := Int.emod_lt_of_pos (c % 18446744073709551616) (show 0 < (m : Int) by omega)
  generalize (c % 18446744073709551616) % (m : Int) = z at *
  exact ⟨z.toNat, by omega, by unfold wrap64; omega⟩
theorem ints_made' (w : World) (n : Nat) : IntsIn (w.alloc (.cells (madeCells #[.int .i64 0] n) 3)) (.slice (some ⟨w.heap.size, 0, none⟩) n n) (List.replicate n 0) := by
  refine ⟨_, n, by simp, by simp, fun _ => ⟨w.heap.size, 0, rfl, fun i hi => ?_⟩⟩
  have := (Blk.new w 3 (madeCells #[.int .i64 0] n)).cell (0 + i)
  rw [this, nums_zeros]
  simp at hi
  simp [nums, hi]
set_option maxRecDepth 100000 in
set_option maxHeartbeats 3200000 in
theorem sampleEmpty_law (a0 a1 a2 : Int) (w : World) :
    Calls Tryd.prog 3 #[.int .i64 a0, .int .i64 a1, .int .i64 a2] w fun e w' => e = .returned (.bool true) ∧ Below w.heap.size w w' := by
  obtain ⟨j, hj4, ej⟩ := mod_nat a0 4 (by omega)
  have HJ := Lib.hid (show wrap64 ((IntKind.u64.wrap a0).tmod 4) = (j : Int) from ej)
  obtain ⟨m, hm⟩ : ∃ m, m = 1 + j := ⟨_, rfl⟩
  have HM1 := Lib.hid (show wrap64 (1 + wrap64 ((IntKind.u64.wrap a0).tmod 4)) = (m : Int) from by rw [HJ.out]; unfold wrap64; omega)
  have hm4 : m ≤ 4 := by omega
  have hmk := fun W' => run_make_row' (P := Tryd.prog) 29 3 (.int .i64 0) 8 Tryd.underlying29 infoInt rfl .i64 .i64 m (by omega) (by omega) W'
  have hn := pwords_bd a0
  obtain ⟨p, hp, hr, ha⟩ := empty_pure (pwords a0) a1 a2 hn.1 hn.2 (List.replicate m 0)
  have HPU := Lib.hid (And.intro hp (And.intro hr ha))
  clear hp hr ha ej hn
  go_enter Tryd.func3, Tryd.ntmps3
  go_wp2_with fail
  refine (lives_any w).mono ?_
  rintro e w1 ⟨rfl, hB1⟩
  go_wp2_with fail
  refine (snew_any w1 a0 a1).mono ?_
  rintro e w2 ⟨W, pb, kb, b, mb, lb, X, rfl, hW, hP⟩
  have HB := Lib.hid (hB1.trans (hW.mono hB1.size))
  have HP := Lib.hid hP
  clear hB1 hW hP
  generalize SP.new (pwords a0) a1 = p0 at *
  go_wp2_with fail
  rw [HM1.out, hmk]
  clear HM1 hmk HJ hm
  go_wp2_with fail
  refine (sctx_write (HP.out.below (below_alloc (Nat.le_refl _) _)) (ints_made' w2 m) (by simp; omega) a2).mono ?_
  rintro e w3 ⟨rfl, h3, -⟩
  have HP := Lib.hid h3
  clear h3
  have HE := Lib.hid HPU.out.1
  generalize (p0.wr (List.replicate m 0) a2).2 = g0
  generalize (p0.wr (List.replicate m 0) a2).1 = p1 at *
  go_wp2_with fail
  refine (sctx_step HP.out true a2).mono ?_
  rintro e w3 ⟨u, rfl, ⟨h3, -⟩, -⟩
  have HP := Lib.hid (h3.less (Y := X) (fun k e => .inl e) HP.out.xp)
  clear h3
  generalize valC u (SP.val p1 true a2) = g1
  generalize (FS.step p1.s true).2.2.1 = g2
  generalize (FS.step p1.s true).2.2.2 = g3
  go_wp2_with fail
  generalize p1.stp true = p2 at *
  refine (sctx_step HP.out true a2).mono ?_
  rintro e w3 ⟨u, rfl, ⟨h3, -⟩, -⟩
  have HP := Lib.hid (h3.less (Y := X) (fun k e => .inl e) HP.out.xp)
  clear h3
  generalize valC u (SP.val p2 true a2) = g1
  generalize (FS.step p2.s true).2.2.1 = g2
  generalize (FS.step p2.s true).2.2.2 = g3
  go_wp2_with fail
  generalize p2.stp true = p3 at *
  refine (sctx_step HP.out true a2).mono ?_
  rintro e w3 ⟨u, rfl, ⟨h3, -⟩, -⟩
  have HP := Lib.hid (h3.less (Y := X) (fun k e => .inl e) HP.out.xp)
  clear h3
  generalize valC u (SP.val p3 true a2) = g1
  generalize (FS.step p3.s true).2.2.1 = g2
  generalize (FS.step p3.s true).2.2.2 = g3
  go_wp2_with fail
  generalize p3.stp true = p4 at *
  refine (sctx_drop HP.out true).mono ?_
  rintro e w3 ⟨rfl, h3, -⟩
  rw [← HE.out] at h3
  have HP := Lib.hid h3
  clear h3 HE
  generalize decide (0 < p4.s.left true) = g4
  go_wp2_with fail
  refine (sctx_read HP.out).mono ?_
  rintro e w3 ⟨rfl, h3, -⟩
  rw [HPU.out.2.1]
  have HP := Lib.hid h3
  clear h3
  go_wp2_with fail
  refine (sctx_all HP.out false a2).mono ?_
  rintro e w4 ⟨u, rfl, ⟨h4, -⟩, hu⟩
  rw [HPU.out.2.2] at hu ⊢
  obtain ⟨Au, cu, rfl⟩ := hu.1.form
  have HBF := Lib.hid (HB.out.trans (h4.bel.mono HB.out.size))
  clear h4 hu HP HPU HB
  unfold valC SV.none
  go_wp2
  go_ret
  exact ⟨rfl, HBF.out.alloc HBF.out.size _⟩
end Go.Proofs.YtmcelldklmjlkaaDoor
