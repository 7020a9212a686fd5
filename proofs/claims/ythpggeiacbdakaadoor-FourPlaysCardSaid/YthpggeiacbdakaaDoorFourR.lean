/- A register of four slots: a turn of the reader, in the laws. -/
import Derived.Test.YthpggeiacbdakaaDoorFourN
namespace Go.Proofs.YthpggeiacbdakaaDoor
open Go.RowKit

/-- What a turn of the reader told. -/
def ToldR (F : Prop) (s : FS) (begun over low last : Nat) (v : Int) (d : Value) : Prop := d = .bool false ∨ d = .bool true ∧ ∃ vo : Nat, v = (vo : Int) ∧ low ≤ vo ∧ vo ≤ begun ∧ (F → last ≤ vo) ∧ InvF F s begun over low vo
def TurnR (F : Prop) (W w' : World) (b mb lb x : Nat) (X : Nat → Prop) (w : World) (s : FS) (begun over last : Nat) (e : Ending) : Prop := ∃ (v : Int) (d : Value) (s' : FS) (low' : Nat), e = .returned (.tuple #[.int .i64 v, d]) ∧ WAt F W w' b mb lb x X s' begun over low' last ∧ (s'.W = s.W ∧ FromR s s' ∧ KX x X w w') ∧ ToldR F s' begun over low' last v d
set_option maxRecDepth 100000 in
set_option maxHeartbeats 3200000 in
theorem turn_r {F : Prop} {W w : World} {b mb lb x : Nat} {X : Nat → Prop} {s : FS} {begun over low last : Nat} (h : WAt F W w b mb lb x X s begun over low last) :
    Calls Tryd.prog 12 #[.pointer (some ⟨x, 0, none⟩), .bool false] w fun e w' => TurnR F W w' b mb lb x X w s begun over last e := by
  have H := Lib.hid h
  have k0 := h.k0
  clear h
  go_enter Tryd.func12, Tryd.ntmps12
  go_wp2_with fail
  refine (ctx_words H.out.c).mono ?_
  rintro e w1 ⟨rfl, rfl⟩
  go_wp2_with fail
  refine (ctx_left H.out.c false).mono ?_
  rintro e w1 ⟨rfl, rfl⟩
  rw [show s.left false = s.ow from rfl]
  go_upto_if 98 with (fail)
  go_cut [] (fun wx => ∃ s1 low1, WAt F W wx b mb lb x X s1 begun over low1 last ∧ s1.ow ≠ 0 ∧ s1.W = s.W ∧ PreR s s1 ∧ KX x X w wx)
  case first =>
    by_cases how : s.ow = 0
    · have bz : ((s.ow : Int) == 0) = true := by simp [how]
      have k2 := H.out.k2
      have k3 := H.out.k3
      have k5 := H.out.k5
      have f3 := H.out.k.fr 3
      have hset : ∀ (w3 : World) (s3 : FS) (_ : Ctx W w3 b mb lb X s3) (i : Nat) (u : Value), Ctx W (w3.setCell ⟨x, i, none⟩ u) b mb lb X s3 := fun _ _ hc i u => hc.onlX (S := fun k => k = x) (onl_set (S := fun k => k = x) (onl_refl _ _) (p := ⟨x, i, none⟩) (.inl rfl) u) (fun k e => by rw [e]; exact H.out.xx) (fun k e => by rw [e]; exact H.out.hx)
      have hC := hset _ _ H.out.c 3 (.int .i64 over)
      have hK := H.out.k.set 3 (.int .i64 over)
      have HC := Lib.hid (And.intro hC hK)
      have hrd := ctx_rd hC
      rw [show s.rd.2 = 0 by unfold FS.rd; rw [if_pos how]] at hrd
      have HRD := Lib.hid hrd
      have HSET := Lib.hid hset
      clear hC hK hrd hset
      go_wp2_with fail
      refine HRD.out.mono ?_
      rintro e w2 ⟨rfl, hC2, hK2⟩
      have hI := invF_rd H.out.inv how
      have hne : s.rd.1.ow ≠ 0 ∧ s.rd.1.W = s.W := by unfold FS.rd; rw [if_pos how]; exact ⟨by simp, rfl⟩
      have hk2 := HC.out.2.of (hK2 x H.out.xx)
      have HW := Lib.hid (show WAt F W (w2.setCell ⟨x, 5, none⟩ (.bool true)) b mb lb x X s.rd.1 begun over over last from ⟨HSET.out _ _ hC2 5 _, hk2.set 5 (.bool true), H.out.xx, H.out.hx, hI⟩)
      have c5 : w2.cell? ⟨x, 5, none⟩ = some (.bool true) := (hk2.cell 5).trans rfl
      have f5 := hk2.fr 5
      have HNE := Lib.hid hne
      have HKX := Lib.hid ((((kx_refl x X w).set 3 (.int .i64 over)).kept hK2).set 5 (.bool true))
      clear hC2 hK2 hI hne hk2 k0 k2 k3 k5 f3 HC HRD HSET
      go_wp2_with fail
      go_meet
      exact ⟨_, over, HW.out, HNE.out.1, HNE.out.2, .inr ⟨how, rfl⟩, HKX.out⟩
    · have bz : ((s.ow : Int) == 0) = false := by simp [how]
      go_wp2_with fail
      go_meet
      exact ⟨s, low, H.out, how, rfl, .inl ⟨rfl, how⟩, kx_refl _ _ _⟩
  case rest =>
    obtain ⟨s1, low1, hW1, hne1, hw1, hpre, hkx⟩ := hcut
    have HPRE := Lib.hid (show FromR s s1.stepR.1 from ⟨s1, hpre, rfl⟩)
    have HKX := Lib.hid hkx
    clear hpre hkx
    have hst := ctx_stepR hW1.c
    have hI := invF_R hW1.inv hW1.c.ok hne1
    have hT := fun e => invF_told hW1.inv hW1.c.ok e
    have hsw : s1.stepR.1.W = s1.W ∧ s1.stepR.2 = (if s1.ow = 1 then s1.accR.ol else [], decide (s1.ow = 1), 0) := by
      unfold FS.stepR
      rw [if_neg hne1]
      exact ⟨(accR_same s1).1, rfl⟩
    rw [hsw.2] at hst
    have hn1 := hW1.c.ok.w1
    have hn6 := hW1.c.ok.w6
    have HST := Lib.hid hst
    have HX := Lib.hid hsw.1
    have HI := Lib.hid hI
    have HT := Lib.hid hT
    have H1 := Lib.hid hW1
    have k0 := hW1.k0
    have hset : ∀ (w3 : World) (s3 : FS) (_ : Ctx W w3 b mb lb X s3) (i : Nat) (u : Value), Ctx W (w3.setCell ⟨x, i, none⟩ u) b mb lb X s3 := fun _ _ hc i u => hc.onlX (S := fun k => k = x) (onl_set (S := fun k => k = x) (onl_refl _ _) (p := ⟨x, i, none⟩) (.inl rfl) u) (fun k e => by rw [e]; exact hW1.xx) (fun k e => by rw [e]; exact hW1.hx)
    have HSET := Lib.hid hset
    clear hst hI hT hsw hW1 hset
    generalize s1.stepR.1 = s2 at *
    generalize s1.accR.ol = l at *
    go_wp2_with fail
    refine HST.out.mono ?_
    rintro e w2 ⟨v, rfl, ⟨hC, hK⟩, hi, hg⟩
    have hxl := H1.out.k.lt
    have HG := Lib.hid (show ∀ g, v.ownBlock = some g → ¬ g = x from fun g hv e => by have := hg g hv; omega)
    have hk2 := H1.out.k.of (hK x H1.out.xx)
    have HK2 := Lib.hid ((HKX.out.kept hK).set 5 (.bool true))
    have HC := Lib.hid hC
    have HK := Lib.hid hk2
    have c5 : w2.cell? ⟨x, 5, none⟩ = some (.bool true) := (hk2.cell 5).trans rfl
    have f5 := hk2.fr 5
    have HE := Lib.hid (HX.out.trans hw1)
    have HXX := Lib.hid (And.intro H1.out.xx H1.out.hx)
    have HIN := Lib.hid hi
    have HW1 := Lib.hid hw1
    clear hC hK hk2 HST HX H1 k0 hi hg hxl
    by_cases hd : s1.ow = 1
    · have hdd : decide (s1.ow = 1) = true := by simp [hd]
      obtain ⟨vo, hvo, h1, h2, h3, h4⟩ := HT.out hd
      have hin := HIN.out
      simp only [if_pos hd] at hin
      rw [hvo] at hin
      obtain ⟨g, o, cc, rfl, hcc, hcells⟩ := ints_rep hin hn1
      have hgx := HG.out g rfl
      have HW := Lib.hid (show WAt F W (w2.setCell ⟨x, 5, none⟩ (.bool true)) b mb lb x X s2 begun over low1 last from ⟨HSET.out _ _ HC.out 5 _, HK.out.set 5 (.bool true), HXX.out.1, HXX.out.2, HI.out⟩)
      have HO := Lib.hid (And.intro (And.intro h1 h2) (And.intro h3 h4))
      have HCELLS := Lib.hid (show ∀ i, i < s1.W → (w2.setCell ⟨x, 5, none⟩ (.bool true)).cell? ⟨g, o + i, none⟩ = some (.int .i64 vo) from fun i hi => (cell_far (fun e => hgx e.symm)).trans (hcells i hi))
      have HGX := Lib.hid hgx
      rw [HW1.out] at hn1 hn6 hcc HCELLS ⊢
      have hWs : (s.W : Int) > 0 := by omega
      clear h1 h2 h3 h4 HIN HG hcells hgx hin hvo HT HI HC HK HSET hw1 HW1 hd
      generalize hn : s.W = n at *
      have HN := Lib.hid hn
      clear hn
      have hn0 : 0 < n := by omega
      go_wp2_with fail
      generalize w2.setCell ⟨x, 5, none⟩ (.bool true) = wL at *
      clear c5 f5
      go_loopw [15] (fun i wx => ∃ k : Nat, k ≤ n ∧ i = .int .i64 k ∧ WAt F W wx b mb lb x X s2 begun over low1 last ∧ KX x X w wx ∧ ∀ i, i < n → wx.cell? ⟨g, o + i, none⟩ = some (.int .i64 vo)) (fun i _ => n - (intOf i).toNat)
      case atStart => exact ⟨0, Nat.zero_le _, rfl, HW.out.set 5 (.bool true) rfl HW.out.inv, HK2.out.set 5 (.bool true), fun i hi => (cell_far (fun e => HGX.out e.symm)).trans (HCELLS.out i hi)⟩
      case round =>
        obtain ⟨k, hk, rfl, hWr, hkx, hcs⟩ := hrel
        have c0 := hcs 0 (by omega)
        rw [Nat.add_zero] at c0
        by_cases hlt : k < n
        · have ck := hcs k hlt
          have c5 := hWr.k5
          have f5 := hWr.k.fr 5
          have HWR := Lib.hid (show WAt F W (wr.drew.setCell ⟨x, 5, none⟩ (.bool true)) b mb lb x X s2 begun over low1 last from (hWr.below (Below.refl _ wr).drew).set 5 (.bool true) rfl hWr.inv)
          have HKR := Lib.hid (show KX x X w (wr.drew.setCell ⟨x, 5, none⟩ (.bool true)) from (hkx.below (Below.refl _ wr).drew hWr.c.lt).set 5 (.bool true))
          have HCS := Lib.hid (show ∀ i, i < n → (wr.drew.setCell ⟨x, 5, none⟩ (.bool true)).cell? ⟨g, o + i, none⟩ = some (.int .i64 vo) from fun i hi => (cell_far (fun e => HGX.out e.symm)).trans (hcs i hi))
          have b1 : (k : Int) < (n : Int) := by omega
          have b0 : (0 : Int) ≤ (k : Int) := by omega
          have b2 : (0 : Int) < (n : Int) := by omega
          clear hWr hcs hkx
          go_wp2_with fail
          go_still_tail 17, (by kernel_rfl)
          change wpList _ _ _ _ _ wr.drew
          go_wp2
          go_round
          case rel => exact ⟨k + 1, by omega, by go_num, HWR.out, HKR.out, HCS.out⟩
          case measure => simp [intOf]; omega
        · obtain rfl : k = n := by omega
          have HWR := Lib.hid hWr
          have HKR := Lib.hid hkx
          have c5 := hWr.k5
          have b2 : (0 : Int) < (k : Int) := by omega
          have b1 : ¬ (k : Int) < (k : Int) := by omega
          clear hWr hcs hkx
          go_wp2
          go_ret2
          exact ⟨vo, .bool true, s2, low1, rfl, HWR.out, ⟨HE.out.trans HN.out.symm, HPRE.out, HKR.out⟩, .inr ⟨rfl, vo, rfl, HO.out.1.1, HO.out.1.2, HO.out.2.1, HO.out.2.2⟩⟩
    · have hdd : decide (s1.ow = 1) = false := by simp [hd]
      have hin := HIN.out
      simp only [if_neg hd] at hin
      obtain ⟨A, cc, rfl⟩ := hin.form
      clear hin
      have HW := Lib.hid (show WAt F W (w2.setCell ⟨x, 5, none⟩ (.bool true)) b mb lb x X s2 begun over low1 last from ⟨HSET.out _ _ HC.out 5 _, HK.out.set 5 (.bool true), HXX.out.1, HXX.out.2, HI.out⟩)
      clear HIN HG HT HI HC HK HSET hd
      go_wp2_with fail
      go_ret2
      exact ⟨0, .bool false, s2, low1, rfl, HW.out, ⟨HE.out, HPRE.out, HK2.out⟩, .inl rfl⟩
end Go.Proofs.YthpggeiacbdakaaDoor
