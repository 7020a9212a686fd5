/- Messages through a ring: a turn of who pops, in the laws. -/
import Derived.Test.YtelfclcljdjohaaDoorRingU
namespace Go.Proofs.YtelfclcljdjohaaDoor
open Go.RowKit

theorem low_eq {f : FS} (h : FInv f) : ((f.fin : Int) == (f.out : Int)) = decide (f.fin = f.out) := by
  have := h.d1
  rw [Bool.eq_iff_iff]
  simp
  omega
set_option maxRecDepth 100000 in
set_option maxHeartbeats 3200000 in
theorem fpop_any {W w : World} {b mb lb x : Nat} {f : FS} (h : FAt W w b mb lb x f) (hi : FInv f) (hb : f.fin < 1000000) :
    Calls Tryd.prog 16 #[.pointer (some ⟨x, 0, none⟩)] w fun e w' => e = .returned (.tuple #[]) ∧ FAt W w' b mb lb x f.pop := by
  have H := Lib.hid h
  have HBU := Lib.hid (ctx_busy h.c false)
  have HI := Lib.hid hi
  have k0 := h.k0
  clear h hi
  go_enter Tryd.func16, Tryd.ntmps16
  go_wp2_with fail
  refine HBU.out.mono ?_
  rintro e w1 ⟨rfl, rfl⟩
  go_upto_if 11 with (fail)
  go_cut [] (fun wx => FAt W wx b mb lb x f.asked)
  case first =>
    by_cases hoa : f.s.oa = 0
    · rw [decide_eq_true hoa]
      have k5 := H.out.k5
      go_wp2_with fail
      refine (ctx_pop H.out.c hoa).mono ?_
      rintro e w3 ⟨rfl, hC3, hK3⟩
      have HW3 := Lib.hid (H.out.kept hC3 hK3)
      clear hC3 hK3 k0 k5
      have k5 := HW3.out.k5
      have f5 := HW3.out.k.fr 5
      have HW4 := Lib.hid (HW3.out.set 5 (.bool true) (f' := { f with s := f.s.popped }) rfl rfl)
      have k0 := HW4.out.k0
      have k1 := HW4.out.k1
      have k2 := HW4.out.k2
      have k4 := HW4.out.k4
      have f4 := HW4.out.k.fr 4
      go_wp2_with fail
      generalize w3.setCell ⟨x, 5, none⟩ (.bool true) = w4 at *
      go_still_tail 12, (by kernel_rfl)
      change wpList _ _ _ _ _ w4.drew
      have HW5 := Lib.hid ((HW4.out.below (Below.refl _ w4).drew).set 4 (.bool (decide (f.fin = f.out))) (f' := f.asked) (by unfold FS.asked; rw [if_pos hoa]; rfl) (by unfold FS.asked; rw [if_pos hoa]))
      rw [low_eq HI.out]
      generalize decide (f.fin = f.out) = bb at *
      go_wp2_with fail
      go_meet
      exact HW5.out
    · rw [decide_eq_false hoa]
      go_wp2_with fail
      go_meet
      unfold FS.asked
      rw [if_neg hoa]
      exact H.out
  case rest =>
    obtain ⟨hF, hne⟩ := finv_asked HI.out
    have hd : f.asked.fin = f.fin := by unfold FS.asked; split <;> rfl
    rw [← hd] at hb
    have HG := Lib.hid (show f.pop = { f.asked with s := f.asked.s.stepR.1, out := if f.asked.s.stepR.2.2.1 = true ∧ f.asked.s.stepR.2.2.2 = 0 then f.asked.out + 1 else f.asked.out } from rfl)
    clear H HBU HI k0 hd
    generalize f.asked = g at *
    have H1 := Lib.hid hcut
    obtain ⟨-, hq, hl⟩ := finv_stepR hF hne
    have hob : g.out < 1000000 := Nat.lt_of_le_of_lt hF.d1 hb
    have HST := Lib.hid (ctx_stepR hcut.c)
    have k0 := hcut.k0
    have hw1 := hF.ok.w1
    have hw6 := hF.ok.w6
    have HPW := Lib.hid (show g.s.stepR.1.W = g.s.W by unfold RS.stepR; repeat (first | rfl | split))
    clear hF hne hcut
    generalize g.s.stepR.1 = s2 at *
    generalize g.s.stepR.2.1 = l at *
    generalize g.s.stepR.2.2.1 = d at *
    generalize g.s.stepR.2.2.2 = er at *
    go_wp2_with fail
    refine HST.out.mono ?_
    rintro e w2 ⟨v, rfl, ⟨hC, hK⟩, hin, hfr⟩
    have hxl := H1.out.k.lt
    have HW := Lib.hid (H1.out.kept hC hK)
    have k0 := HW.out.k0
    have k2 := HW.out.k2
    have k4 := HW.out.k4
    have k5 := HW.out.k5
    have f5 := HW.out.k.fr 5
    clear hC hK HST H1
    obtain ⟨A, cc, rfl⟩ := hin.form
    rcases hq with rfl | ⟨rfl, rfl, hlow⟩
    · cases d
      · have HW2 := Lib.hid (HW.out.set 5 (.bool true) (f' := { g with s := s2 }) rfl rfl)
        clear hl hin hfr
        go_wp2_with fail
        (try simp only [Exit.inBlock, Exit.then]); refine bodyPost_ret (results_none rfl _ _ _) rfl ?_
        exact ⟨rfl, HG.out ▸ HW2.out⟩
      · obtain rfl := hl rfl rfl
        obtain ⟨gg, o, cc', he, hlc, hcell⟩ := ints_rep hin hw1
        simp only [List.length_replicate] at he ⊢
        obtain ⟨rfl, rfl⟩ : A = some ⟨gg, o, none⟩ ∧ cc = cc' := by injection he with e1 e2 e3; exact ⟨e1, e3⟩
        have hgx : x ≠ gg := by
          have := hfr gg (by simp [Value.ownBlock])
          omega
        have HW2 := Lib.hid (HW.out.set 5 (.bool true) (f' := { g with s := s2 }) rfl rfl)
        have HW3 := Lib.hid (HW2.out.set 2 (.int .i64 ((g.out + 1 : Nat) : Int)) (f' := { g with s := s2, out := g.out + 1 }) rfl rfl)
        have HCE := Lib.hid (show ∀ i, i < g.s.W → ((w2.setCell ⟨x, 5, none⟩ (.bool true)).setCell ⟨x, 2, none⟩ (.int .i64 ((g.out + 1 : Nat) : Int))).cell? ⟨gg, o + i, none⟩ = some (.int .i64 ((g.out : Int) + 1)) from fun i hi => by
          rw [cell_far hgx, cell_far hgx]
          exact hcell i hi)
        have eV := show ((g.out + 1 : Nat) : Int) = (g.out : Int) + 1 by omega
        have g2 := HW2.out.k2
        have h5 := HW3.out.k5
        have h0 := HW3.out.k0
        have f2 := HW2.out.k.fr 2
        have hf5 := HW3.out.k.fr 5
        have HCW := Lib.hid (show Calls Tryd.prog 11 #[.pointer (some ⟨b, 0, none⟩)] ((w2.setCell ⟨x, 5, none⟩ (.bool true)).setCell ⟨x, 2, none⟩ (.int .i64 ((g.out + 1 : Nat) : Int))) fun e w' => e = .returned (.int .i64 g.s.W) ∧ ((w2.setCell ⟨x, 5, none⟩ (.bool true)).setCell ⟨x, 2, none⟩ (.int .i64 ((g.out + 1 : Nat) : Int))) = w' from by
          have := ctx_words HW3.out.c
          rw [show ({ g with s := s2, out := g.out + 1 } : FS).s.W = g.s.W from HPW.out] at this
          exact this)
        rw [eV] at HW3 HCE h5 h0 hf5 HCW
        clear hl hin hfr he hcell
        go_wp2_with fail
        refine HCW.out.mono ?_
        rintro e w4 ⟨rfl, rfl⟩
        clear HW HW2 HCW g2 f2 h0 k0 k2 k4 k5 f5
        generalize (w2.setCell ⟨x, 5, none⟩ (.bool true)).setCell ⟨x, 2, none⟩ (.int .i64 ((g.out : Int) + 1)) = w4 at *
        have HW4 := Lib.hid (HW3.out.set 5 (.bool true) (f' := { g with s := s2, out := g.out + 1 }) rfl rfl)
        have HC4 := Lib.hid (show ∀ i, i < g.s.W → (w4.setCell ⟨x, 5, none⟩ (.bool true)).cell? ⟨gg, o + i, none⟩ = some (.int .i64 ((g.out : Int) + 1)) from fun i hi => by
          rw [cell_far hgx]
          exact HCE.out i hi)
        have HP := Lib.hid (show f.pop = { g with s := s2, out := g.out + 1 } from HG.out.trans (by simp))
        generalize g.s.W = n at *
        clear HW3 HCE HG
        go_wp2_with fail
        clear h5 hf5
        generalize w4.setCell ⟨x, 5, none⟩ (.bool true) = w5 at *
        go_loopw [5] (fun i wx => ∃ k : Nat, k ≤ n ∧ i = .int .i64 k ∧ FAt W wx b mb lb x { g with s := s2, out := g.out + 1 } ∧ ∀ i, i < n → wx.cell? ⟨gg, o + i, none⟩ = some (.int .i64 ((g.out : Int) + 1))) (fun i _ => n - (intOf i).toNat)
        case atStart => exact ⟨0, Nat.zero_le _, rfl, HW4.out, HC4.out⟩
        case round =>
          obtain ⟨k, hk, rfl, hW, hce⟩ := hrel
          clear HW4 HC4
          have HW := Lib.hid hW
          have HCE := Lib.hid hce
          clear hW hce
          by_cases hlt : k < n
          · have c0 := HCE.out k hlt
            have k0 := HW.out.k0
            have k2 := HW.out.k2
            rw [show (({ g with s := s2, out := g.out + 1 } : FS).out : Int) = (g.out : Int) + 1 by simp] at k2
            have k5 := HW.out.k5
            have f5 := HW.out.k.fr 5
            have b1 : (k : Int) < (n : Int) := by omega
            have b0 : (0 : Int) ≤ (k : Int) := by omega
            have HW2 := Lib.hid ((HW.out.below (Below.refl _ wr).drew).set 5 (.bool true) (f' := { g with s := s2, out := g.out + 1 }) rfl rfl)
            have HC2 := Lib.hid (show ∀ i, i < n → (wr.drew.setCell ⟨x, 5, none⟩ (.bool true)).cell? ⟨gg, o + i, none⟩ = some (.int .i64 ((g.out : Int) + 1)) from fun i hi => by
              rw [cell_far hgx]
              exact HCE.out i hi)
            go_wp2_with fail
            go_still_tail 18, (by kernel_rfl)
            change wpList _ _ _ _ _ wr.drew
            go_wp2_with fail
            go_roundw
            case rel => exact ⟨k + 1, by omega, by go_num, HW2.out, HC2.out⟩
            case measure => simp [intOf]; omega
          · obtain rfl : k = n := by omega
            go_wp2_with fail
            go_end0
            exact ⟨rfl, HP.out ▸ HW.out⟩
    · rw [show ({ g with s := s2 } : FS).low = g.low from rfl, hlow] at k4
      have HW2 := Lib.hid (HW.out.set 5 (.bool true) (f' := { g with s := s2 }) rfl rfl)
      clear hl hin hfr
      go_wp2_with fail
      (try simp only [Exit.inBlock, Exit.then]); refine bodyPost_ret (results_none rfl _ _ _) rfl ?_
      exact ⟨rfl, HG.out ▸ HW2.out⟩
end Go.Proofs.YtelfclcljdjohaaDoor
