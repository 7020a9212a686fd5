/- A sampling port: lives, the walk. -/
import Derived.Test.YtmcelldklmjlkaaDoorSampG
import Derived.Deep.CutBlock
import Derived.Deep.DeepCutAuto
namespace Go.Proofs.YtmcelldklmjlkaaDoor
open Go.RowKit

theorem words_keep {w w' : World} {u : Value} {l : List Int} (h : IntsIn w u l) (hk : ∀ g, u.ownBlock = some g → w'.heap[g]? = w.heap[g]?) : IntsIn w' u l := by
  obtain ⟨A, c, rfl, hl, k⟩ := h
  refine ⟨A, c, rfl, hl, fun hp => ?_⟩
  obtain ⟨g, o, rfl, d⟩ := k hp
  exact ⟨g, o, rfl, fun i hi => (World.cell?_of_block (a := ⟨g, o + i, none⟩) (hk g rfl)).trans (d i hi)⟩
set_option maxRecDepth 100000 in
set_option maxHeartbeats 3200000 in
theorem lives_any (w : World) : Calls Tryd.prog 8 #[] w fun e w' => e = .returned (.bool true) ∧ Below w.heap.size w w' := by
  obtain ⟨z0, z1, z2, z3, z4, z5, h0, h1, h2, h3, h4, h5, he1, he2, he3⟩ := lives_pure
  have H0 := Lib.hid h0
  have H1 := Lib.hid h1
  have H2 := Lib.hid h2
  have H3 := Lib.hid h3
  have H4 := Lib.hid h4
  have H5 := Lib.hid h5
  have E1 := Lib.hid he1
  have E2 := Lib.hid he2
  have E3 := Lib.hid he3
  clear h0 h1 h2 h3 h4 h5 he1 he2 he3
  go_enter Tryd.func8, Tryd.ntmps8
  go_wp2_with fail
  refine (snew_any w 1 3).mono ?_
  rintro e w1 ⟨W, pb, kb, b, mb, lb, X, rfl, hW, hP⟩
  rw [pwords1, ← H0.out] at hP
  have HP := Lib.hid (show PCtx W w1 pb kb b mb lb X z0 from hP)
  have HB := Lib.hid hW
  clear hP hW
  go_wp2_with fail
  refine (sctx_write (HP.out.below (below_alloc (Nat.le_refl _) _)) (ints_new _ _ 7) (by simp) 5).mono ?_
  rintro e w2 ⟨rfl, h2, -⟩
  rw [E1.out]
  rw [← H1.out] at h2
  have HP := Lib.hid (show PCtx W w2 pb kb b mb lb X z1 from h2)
  clear h2
  go_wp2_with fail
  refine (sctx_all HP.out true 5).mono ?_
  rintro e w3 ⟨u3, rfl, ⟨h3, -⟩, -⟩
  rw [← H2.out] at h3
  generalize (z1.all true 5 20).2.1 = c3 at *
  generalize (z1.all true 5 20).2.2 = d3 at *
  generalize valC u3 c3 = g3 at *
  have HP := Lib.hid (show PCtx W w3 pb kb b mb lb X z2 from h3.less (fun k e => .inl e) HP.out.xp)
  clear h3
  go_wp2_with fail
  refine (sctx_read HP.out).mono ?_
  rintro e w4 ⟨rfl, h4, -⟩
  rw [← H3.out] at h4
  generalize z2.rd.2 = d4 at *
  have HP := Lib.hid (show PCtx W w4 pb kb b mb lb X z3 from h4)
  clear h4
  have hp4 := HP.out.k.lt
  go_wp2_with fail
  refine (sctx_all HP.out false 8).mono ?_
  rintro e w5 ⟨u, rfl, ⟨h5, -⟩, hu⟩
  rw [← H4.out] at h5
  have h5' : PCtx W w5 pb kb b mb lb (fun k => X k ∨ u.ownBlock = some k) z4 := h5
  have hx := E2.out
  clear E2
  generalize (z3.all false 8 20).2.1 = x at *
  generalize (z3.all false 8 20).2.2 = d at *
  obtain ⟨xl, xq, xt, xh, xv⟩ := x
  simp only at hx
  obtain ⟨rfl, rfl, rfl, rfl, rfl, rfl⟩ := hx
  obtain ⟨Au, cu, rfl⟩ := hu.1.form
  have hba := below_alloc (w := w5) (Nat.le_refl _) (.cells #[.slice Au 1 cu, .int .i64 1, .int .i64 5, .bool true, .bool true] 32)
  have hP := h5'.grow hba
  have hxb := Blk.new w5 32 #[.slice Au 1 cu, .int .i64 1, .int .i64 5, .bool true, .bool true]
  have hI : IntsIn (w5.alloc (.cells #[.slice Au 1 cu, .int .i64 1, .int .i64 5, .bool true, .bool true] 32)) (.slice Au 1 cu) [7] := hu.1.below hba
  have hX1 : newX (fun k => X k ∨ (Value.slice Au 1 cu).ownBlock = some k) w5 (w5.alloc (.cells #[.slice Au 1 cu, .int .i64 1, .int .i64 5, .bool true, .bool true] 32)) w5.heap.size := .inr ⟨Nat.le_refl _, by simp⟩
  have hX2 : ∀ k, (Value.slice Au 1 cu).ownBlock = some k → newX (fun k => X k ∨ (Value.slice Au 1 cu).ownBlock = some k) w5 (w5.alloc (.cells #[.slice Au 1 cu, .int .i64 1, .int .i64 5, .bool true, .bool true] 32)) k := fun k e => .inl (.inr e)
  have hN1 : w5.heap.size ≠ pb := fun e => by have := h5'.k.lt; omega
  have hN2 : ∀ k, (Value.slice Au 1 cu).ownBlock = some k → k ≠ pb := fun k e => by have := (hu.2 k e).1; omega
  have HQ := Lib.hid (And.intro hX1 (And.intro hX2 (And.intro hN1 hN2)))
  have HP := Lib.hid (show PCtx W _ pb kb b mb lb _ z4 from hP)
  have HXB := Lib.hid hxb
  have HI := Lib.hid hI
  clear hX1 hX2 hN1 hN2 hP hxb hI hba h5 h5' hu hp4
  unfold valC
  go_wp2_with fail
  generalize newX (fun k => X k ∨ (Value.slice Au 1 cu).ownBlock = some k) w5 (w5.alloc (.cells #[.slice Au 1 cu, .int .i64 1, .int .i64 5, .bool true, .bool true] 32)) = Y at *
  generalize w5.alloc (.cells #[.slice Au 1 cu, .int .i64 1, .int .i64 5, .bool true, .bool true] 32) = wa at *
  generalize w5.heap.size = xb at *
  refine (sctx_read HP.out).mono ?_
  rintro e w6 ⟨rfl, h6, k6⟩
  rw [← H5.out] at h6
  generalize z4.rd.2 = d6 at *
  have HP := Lib.hid (show PCtx W w6 pb kb b mb lb Y z5 from h6)
  have HXB := Lib.hid (HXB.out.of (k6 _ HQ.out.1 HQ.out.2.2.1))
  have HI := Lib.hid (words_keep HI.out (fun g hg => k6 g (HQ.out.2.1 g hg) (HQ.out.2.2.2 g hg)))
  clear h6 k6
  go_upto_region 7 with (fail)
  go_cut [5, 6] (fun p5 p6 wx => ∃ y vy qy ty, p5 = .pointer (some ⟨y, 0, none⟩) ∧ p6 = .bool true ∧ Blk wx y 32 #[vy, qy, ty, .bool true, .bool false] ∧ Blk wx xb 32 #[.slice Au 1 cu, .int .i64 1, .int .i64 5, .bool true, .bool true] ∧ IntsIn wx (.slice Au 1 cu) [7] ∧ Below w.heap.size w wx)
  case first =>
    go_wp2_with fail
    refine (sctx_all HP.out false 9).mono ?_
    rintro e w7 ⟨uy, rfl, ⟨h7, k7⟩, hy⟩
    have hXB := HXB.out.of (k7 _ HQ.out.1 HQ.out.2.2.1)
    have hI := words_keep HI.out (fun g hg => k7 g (HQ.out.2.1 g hg) (HQ.out.2.2.2 g hg))
    have hxe := E3.out
    clear E3
    generalize (z5.all false 9 20).2.1 = y at *
    generalize (z5.all false 9 20).2.2 = d at *
    obtain ⟨yl, yq, yt, yh, yv⟩ := y
    simp only at hxe
    obtain ⟨rfl, rfl, rfl⟩ := hxe
    obtain ⟨Ay, cy, rfl⟩ := hy.1.form
    have hBW := HB.out.trans (h7.bel.mono HB.out.size)
    have hba := below_alloc (w := w7) (Nat.le_refl _) (.cells #[.slice Ay yl.length cy, .int .i64 yq, .int .i64 yt, .bool true, .bool false] 32)
    have HR := Lib.hid (And.intro (Blk.new w7 32 #[.slice Ay yl.length cy, .int .i64 yq, .int .i64 yt, .bool true, .bool false]) (And.intro (hXB.below hba hXB.lt) (And.intro (hI.below hba) (hBW.trans (hba.mono hBW.size)))))
    clear h7 k7 hy hBW HP HQ HI HXB hXB hI hba HB
    unfold valC
    go_wp2_with fail
    go_meet
    exact ⟨_, _, _, _, rfl, rfl, HR.out⟩
  case rest =>
    obtain ⟨y, vy, qy, ty, rfl, rfl, hy, hx, hI, hB⟩ := hcut
    have x1 : wc.cell? ⟨xb, 1, none⟩ = some (.int .i64 1) := (hx.cell 1).trans rfl
    have x2 : wc.cell? ⟨xb, 2, none⟩ = some (.int .i64 5) := (hx.cell 2).trans rfl
    have x3 : wc.cell? ⟨xb, 3, none⟩ = some (.bool true) := (hx.cell 3).trans rfl
    have x4 : wc.cell? ⟨xb, 4, none⟩ = some (.bool true) := (hx.cell 4).trans rfl
    have x0 : wc.cell? ⟨xb, 0, none⟩ = some (.slice Au 1 cu) := (hx.cell 0).trans rfl
    have hya := hy.alloc (.cells #[.int .i64 7] 3)
    have y3 : (wc.alloc (.cells #[.int .i64 7] 3)).cell? ⟨y, 3, none⟩ = some (.bool true) := (hya.cell 3).trans rfl
    have y4 : (wc.alloc (.cells #[.int .i64 7] 3)).cell? ⟨y, 4, none⟩ = some (.bool false) := (hya.cell 4).trans rfl
    have HSM := Lib.hid (same_yes (l := [7]) (hI.below (below_alloc (Nat.le_refl _) _)) (ints_new wc 3 7) (by simp))
    have HBF := Lib.hid (hB.alloc hB.size (.cells #[.int .i64 7] 3))
    clear hy hx hI hB hya HP HQ HI HXB HB
    go_wp2_with fail
    refine HSM.out.mono ?_
    rintro r w' ⟨rfl, k9, rfl⟩
    have y3' : ((wc.alloc (.cells #[.int .i64 7] 3)).drewN k9).cell? ⟨y, 3, none⟩ = some (.bool true) := y3
    have y4' : ((wc.alloc (.cells #[.int .i64 7] 3)).drewN k9).cell? ⟨y, 4, none⟩ = some (.bool false) := y4
    have HBG := Lib.hid (HBF.out.trans ((below_drewN' (wc.alloc (.cells #[.int .i64 7] 3)) k9).mono HBF.out.size))
    clear x0 x1 x2 x3 x4 y3 y4
    generalize (wc.alloc (.cells #[.int .i64 7] 3)).drewN k9 = wf at *
    go_wp2
    go_ret
    exact ⟨rfl, HBG.out⟩
end Go.Proofs.YtmcelldklmjlkaaDoor
