/- The register of three slots: a turn of the reader, in the laws. -/
import Derived.Test.YtdhbiogcaekbbaaDoorTripleL
namespace Go.Proofs.YtdhbiogcaekbbaaDoor
open Go.RowKit

theorem ints_rep {w : World} {v : Value} {n : Nat} {x : Int} (h : IntsIn w v (List.replicate n x)) (hn : 1 ≤ n) : ∃ g o cc, v = .slice (some ⟨g, o, none⟩) n cc ∧ n ≤ cc ∧ ∀ i, i < n → w.cell? ⟨g, o + i, none⟩ = some (.int .i64 x) := by
  obtain ⟨A, cc, hv, hcc, hcells⟩ := h
  obtain ⟨g, o, rfl, hcs⟩ := hcells (by simp; omega)
  simp only [List.length_replicate] at hv hcc
  exact ⟨g, o, cc, hv, hcc, fun i hi => by rw [hcs i (by simpa using hi), List.getElem_replicate]⟩
theorem inv_last {s : TS} {begun over low last vo : Nat} (h : Inv s begun over low vo) (hl : last ≤ vo) : Inv s begun over low last := by
  obtain ⟨vc, v, a1, a2, a3, a4, a5, a6, a7, a8⟩ := h.ex
  exact ⟨h.p1, h.p2, h.p3, ⟨vc, v, a1, a2, a3, by omega, a5, a6, a7, a8⟩, h.lo, h.ov, h.wr, h.sw⟩
set_option maxRecDepth 100000 in
set_option maxHeartbeats 3200000 in
theorem wr_any {W w : World} {b mb lb : Nat} {s : TS} {begun over low last : Nat} (h : WAt W w b mb lb s begun over low last) :
    Calls Tryd.prog 13 #[.pointer (some ⟨s.x, 0, none⟩)] w fun e w' => ∃ v s' low', e = .returned (.int .i64 v) ∧ WAt W w' b mb lb s' begun over low' last ∧ s'.x = s.x ∧ s'.W = s.W ∧
      (v = -1 ∨ ∃ vo : Nat, v = (vo : Int) ∧ low' ≤ vo ∧ vo ≤ over ∧ last ≤ vo ∧ Inv s' begun over low' vo) := by
  have H := Lib.hid h
  have HBU := Lib.hid (ctx_busy h.c false)
  have k0 := h.k0
  clear h
  go_enter Tryd.func13, Tryd.ntmps13
  go_wp2_with fail
  refine HBU.out.mono ?_
  rintro e w1 ⟨rfl, rfl⟩
  go_upto_if 12 with (fail)
  go_cut [] (fun wx => ∃ s1 low1, WAt W wx b mb lb s1 begun over low1 last ∧ s1.oa ≠ 0 ∧ s1.x = s.x ∧ s1.W = s.W)
  case first =>
    by_cases hoa : s.oa = 0
    · rw [show s.busy false = false by simp [TS.busy, hoa]]
      have k2 := H.out.k2
      have k3 := H.out.k3
      have k5 := H.out.k5
      have f3 := H.out.k.fr 3
      have hC := H.out.c.set 3 (.int .i64 over) H.out.hr H.out.hx
      have hK := H.out.k.set 3 (.int .i64 over)
      have HC := Lib.hid (And.intro hC hK)
      have HRD := Lib.hid (ctx_read hC)
      rw [show s.rd.2 = 0 by simp [TS.rd, hoa]] at HRD
      clear hC hK
      go_wp2_with fail
      refine HRD.out.mono ?_
      rintro e w2 ⟨rfl, hC2, hO2⟩
      have hI := inv_rd H.out.inv
      rw [if_pos hoa] at hI
      have hx := rd_x s
      have hne : s.rd.1.oa ≠ 0 := by simp [TS.rd, hoa]
      have hk2 := blk_onl HC.out.2 hO2 H.out.hr
      have HW := Lib.hid (show WAt W (w2.setCell ⟨s.x, 5, none⟩ (.bool true)) b mb lb s.rd.1 begun over over last by
        have := hC2.set 5 (.bool true) (by rw [hx.1]; exact H.out.hr) (by rw [hx.1]; exact H.out.hx)
        rw [hx.1] at this
        exact ⟨this, by rw [hx.1]; exact hk2.set 5 (.bool true), by rw [hx.1]; exact H.out.hx, by rw [hx.1]; exact H.out.hr, hI⟩)
      have c5 : w2.cell? ⟨s.x, 5, none⟩ = some (.bool true) := (hk2.cell 5).trans rfl
      have f5 := hk2.fr 5
      have HX := Lib.hid hx
      have HNE := Lib.hid hne
      clear hC2 hO2 hI hx hne hk2 k0 k2 k3 k5 f3 HC HRD
      go_wp2_with fail
      go_meet
      exact ⟨_, over, HW.out, HNE.out, HX.out.1, HX.out.2⟩
    · rw [show s.busy false = true by simp [TS.busy]; omega]
      go_wp2_with fail
      go_meet
      exact ⟨s, low, H.out, hoa, rfl, rfl⟩
  case rest =>
    obtain ⟨s1, low1, hW1, hoa1, hx1, hw1⟩ := hcut
    have hst := ctx_step hW1.c false
    obtain ⟨hI1, hI2⟩ := inv_stepR hW1.inv hW1.c.fine hoa1
    have hsx := step_x s1 false
    have hf1 : (s1.step false).2.2.2 = 0 := hI1
    have hf2 : (s1.step false).2.2.1 = false ∧ Inv (s1.step false).1 begun over low1 last ∧ (s1.step false).1.oa ≠ 0 ∨ (s1.step false).2.2.1 = true ∧ ∃ vo : Nat, (s1.step false).2.1 = List.replicate s1.W (vo : Int) ∧ low1 ≤ vo ∧ vo ≤ over ∧ last ≤ vo ∧ Inv (s1.step false).1 begun over low1 vo := hI2
    rw [hf1] at hst
    have hn1 := hW1.c.fine.ok.w1
    have hn6 := hW1.c.fine.ok.w6
    have HST := Lib.hid hst
    have HX := Lib.hid hsx
    have H1 := Lib.hid hW1
    have k0 := hW1.k0
    rw [hx1] at k0
    clear hst hI1 hI2 hf1 hsx hW1 hoa1
    generalize (s1.step false).1 = s2 at *
    generalize (s1.step false).2.2.1 = d at *
    generalize (s1.step false).2.1 = l at *
    go_wp2_with fail
    refine HST.out.mono ?_
    rintro e w2 ⟨v, rfl, hC, hO, hi, hg⟩
    have hxl := H1.out.k.lt
    rw [← HX.out.1] at hxl
    have HG := Lib.hid (show ∀ g, v.ownBlock = some g → ¬ g = s2.x from fun g hv e => by have := hg g hv; omega)
    clear hg hxl
    have hk2 := blk_onl H1.out.k hO H1.out.hr
    have hr2 := H1.out.hr
    have hx2 := H1.out.hx
    rw [← HX.out.1] at hk2 hr2 hx2
    have e2 : s2.x = s.x := HX.out.1.trans hx1
    have e3 : s2.W = s.W := HX.out.2.trans hw1
    have e4 : s1.W = s2.W := HX.out.2.symm
    rw [← e2] at k0 ⊢
    have HC := Lib.hid hC
    have HK := Lib.hid hk2
    have c0 : w2.cell? ⟨s2.x, 0, none⟩ = some (.pointer (some ⟨b, 0, none⟩)) := (hk2.cell 0).trans rfl
    have c5 : w2.cell? ⟨s2.x, 5, none⟩ = some (.bool true) := (hk2.cell 5).trans rfl
    have f5 := hk2.fr 5
    have HR := Lib.hid (And.intro hr2 hx2)
    have HE := Lib.hid (And.intro e2 e3)
    have HIV := Lib.hid hf2
    have HIN := Lib.hid hi
    clear hC hO hk2 hr2 hx2 HST HX H1 e2 e3 k0 hx1 hw1 hf2 hi
    cases d
    · obtain ⟨A, cc, rfl⟩ := HIN.out.form
      have hinv := (HIV.out.resolve_right (fun e => by cases e.1)).2.1
      have HW := Lib.hid (show WAt W (w2.setCell ⟨s2.x, 5, none⟩ (.bool true)) b mb lb s2 begun over low1 last from ⟨HC.out.set 5 _ HR.out.1 HR.out.2, HK.out.set 5 (.bool true), HR.out.2, HR.out.1, hinv⟩)
      clear hinv
      go_wp2_with fail
      go_ret
      exact ⟨-1, s2, low1, rfl, HW.out, HE.out.1, HE.out.2, .inl rfl⟩
    · obtain ⟨_, vo, rfl, h1, h2, h3, h4⟩ := HIV.out.resolve_left (fun e => by cases e.1)
      obtain ⟨g, o, cc, rfl, hcc, hcells⟩ := ints_rep HIN.out hn1
      have hgx := HG.out g rfl
      have HW := Lib.hid (show WAt W (w2.setCell ⟨s2.x, 5, none⟩ (.bool true)) b mb lb s2 begun over low1 last from ⟨HC.out.set 5 _ HR.out.1 HR.out.2, HK.out.set 5 (.bool true), HR.out.2, HR.out.1, inv_last h4 h3⟩)
      have HO := Lib.hid (And.intro (And.intro h1 h2) (And.intro h3 h4))
      have HCELLS := Lib.hid (show ∀ i, i < s2.W → (w2.setCell ⟨s2.x, 5, none⟩ (.bool true)).cell? ⟨g, o + i, none⟩ = some (.int .i64 vo) from fun i hi => (cell_far (fun e => hgx e.symm)).trans (hcells i (by omega)))
      rw [e4] at hn1 hn6 hcc ⊢
      have HGX := Lib.hid hgx
      have hWs : (s2.W : Int) > 0 := by omega
      clear h1 h2 h3 h4 HIN HIV HG hcells e4 hgx
      generalize hn : s2.W = n at *
      have HN := Lib.hid hn
      clear hn
      have hn0 : 0 < n := by omega
      go_wp2_with fail
      refine (ctx_words HC.out).mono ?_
      rintro e w3 ⟨rfl, rfl⟩
      rw [HN.out]
      go_wp2
      generalize w2.setCell ⟨s2.x, 5, none⟩ (.bool true) = wL at *
      clear c0 c5 f5
      go_loopw [6] (fun i wx => ∃ k : Nat, k ≤ n ∧ i = .int .i64 k ∧ WAt W wx b mb lb s2 begun over low1 last ∧ ∀ i, i < n → wx.cell? ⟨g, o + i, none⟩ = some (.int .i64 vo)) (fun i _ => n - (intOf i).toNat)
      case atStart => exact ⟨0, Nat.zero_le _, rfl, HW.out, HCELLS.out⟩
      case round =>
        obtain ⟨k, hk, rfl, hWr, hcs⟩ := hrel
        have c0 := hcs 0 (by omega)
        rw [Nat.add_zero] at c0
        by_cases hlt : k < n
        · have ck := hcs k hlt
          have c5 := hWr.k5
          have f5 := hWr.k.fr 5
          have HWR := Lib.hid (show WAt W (wr.drew.setCell ⟨s2.x, 5, none⟩ (.bool true)) b mb lb s2 begun over low1 last from (hWr.below (Below.refl _ wr).drew).set 5 (.bool true) rfl hWr.inv)
          have HCS := Lib.hid (show ∀ i, i < n → (wr.drew.setCell ⟨s2.x, 5, none⟩ (.bool true)).cell? ⟨g, o + i, none⟩ = some (.int .i64 vo) from fun i hi => (cell_far (fun e => HGX.out e.symm)).trans (hcs i hi))
          have b1 : (k : Int) < (n : Int) := by omega
          have b0 : (0 : Int) ≤ (k : Int) := by omega
          have b2 : (0 : Int) < (n : Int) := by omega
          clear hWr hcs
          go_wp2_with fail
          go_still_tail 17, (by kernel_rfl)
          change wpList _ _ _ _ _ wr.drew
          go_wp2
          go_round
          case rel => exact ⟨k + 1, by omega, by go_num, HWR.out, HCS.out⟩
          case measure => simp [intOf]; omega
        · obtain rfl : k = n := by omega
          have HWR := Lib.hid hWr
          have b2 : (0 : Int) < (k : Int) := by omega
          clear hWr hcs
          go_wp2
          go_ret
          exact ⟨vo, s2, low1, rfl, HWR.out, HE.out.1, HN.out.trans HE.out.2, .inr ⟨vo, rfl, HO.out.1.1, HO.out.1.2, HO.out.2.1, HO.out.2.2⟩⟩
end Go.Proofs.YtdhbiogcaekbbaaDoor
