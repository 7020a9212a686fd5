/- RingResets: behind a Reset it is as a new one: the walk. -/
import Derived.Test.YtelfclcljdjohaaDoorRingZ
import Derived.Test.YtelfclcljdjohaaDoorSteps
import Derived.Deep.CutBlock
namespace Go.Proofs.YtelfclcljdjohaaDoor
open Go.RowKit

theorem step_len {s : RS} (h : s.ok) (x : Bool) : (s.step x).2.1.length ≤ 6 := by
  have h1 := h.ol
  have h2 := h.w6
  cases x
  · show s.stepR.2.1.length ≤ 6
    unfold RS.stepR
    split
    · simp
    split
    · simp
    split
    · split <;> simp
    split
    · simp
    · simp only []; omega
  · show ([] : List Int).length ≤ 6
    simp
theorem mem_len {s : RS} (h : s.ok) : s.mem.length ≤ 50 := by
  have := h.len
  have : s.P * s.W ≤ 8 * 6 := Nat.mul_le_mul h.p8 h.w6
  omega
theorem words2 : wordsOf 2 = 2 := by decide
set_option maxRecDepth 100000 in
set_option maxHeartbeats 6400000 in
theorem ringResets_law (n0 : Int) (A1 : Option Addr) (len1 cap1 bs1 off1 : Nat) (K1 N1 : Nat → Int) (V1 : Nat → Value) (L1 : Nat → List Int) (A2 : Option Addr) (len2 cap2 bs2 off2 : Nat) (K2 N2 : Nat → Int) (V2 : Nat → Value) (L2 : Nat → List Int) (w : World)
    (hS1 : StepsIn w A1 len1 bs1 off1 K1 N1 V1 L1) (hlc1 : len1 ≤ cap1) (_ : cap1 ≤ maxLen) (hS2 : StepsIn w A2 len2 bs2 off2 K2 N2 V2 L2) (hlc2 : len2 ≤ cap2) (_ : cap2 ≤ maxLen) :
    Calls Tryd.prog 6 #[.int .i64 n0, .slice A1 len1 cap1, .slice A2 len2 cap2] w fun e w' => e = .returned (.bool true) ∧ Below w.heap.size w w' := by
  have HE1 := Lib.hid (fun w => early_any A1 len1 cap1 w hlc1)
  have HE2 := Lib.hid (fun w => early_any A2 len2 cap2 w hlc2)
  have hS1' := hS1.cut (min len1 150) (by omega)
  have hS2' := hS2.cut (min len2 150) (by omega)
  have hm1 : min len1 150 ≤ cap1 := by omega
  have hm2 : min len2 150 ≤ cap2 := by omega
  have hx1 : min len1 150 ≤ 150 := by omega
  have hx2 : min len2 150 ≤ 150 := by omega
  clear hS1 hS2 hlc1 hlc2
  generalize min len1 150 = e1 at *
  generalize min len2 150 = e2 at *
  have HS1 := Lib.hid hS1'
  have HS2 := Lib.hid hS2'
  clear hS1' hS2'
  go_enter Tryd.func6, Tryd.ntmps6
  go_wp2_with fail
  refine (lives_any w).mono ?_
  rintro e w1 ⟨rfl, hB1⟩
  go_wp2_with fail
  refine (ctx_new n0 2 hB1).mono ?_
  rintro e w2 ⟨b1, m1, l1, rfl, hB2, hC⟩
  rw [words2] at hC
  have HN := Lib.hid (two_new n0 2 hC)
  rw [words2] at HN
  have HP := Lib.hid (show (RS.new (placesOf n0) 2).P = placesOf n0 ∧ (RS.new (placesOf n0) 2).W = 2 from ⟨rfl, rfl⟩)
  clear hB1 hB2 hC
  generalize placesOf n0 = P at *
  go_wp2_with fail
  refine HN.out.mono ?_
  rintro e w3 ⟨b2, m2, l2, rfl, hT⟩
  have HT := Lib.hid hT
  clear hT HN
  go_wp2_with fail
  refine (HE1.out _).mono ?_
  rintro e w4 ⟨rfl, rfl⟩
  go_wp2_with fail
  refine (HE2.out _).mono ?_
  rintro e w4 ⟨rfl, rfl⟩
  clear HE1 HE2
  go_wp2_with fail
  go_loopw [9] (fun i wx => ∃ (k : Nat) (s1 : RS), k ≤ e1 ∧ i = .int .i64 k ∧ Two w wx b1 m1 l1 s1 nob b2 m2 l2 (RS.new P 2) nob ∧ s1.P = P ∧ s1.W = 2) (fun i _ => e1 - (intOf i).toNat)
  case atStart => exact ⟨0, RS.new P 2, Nat.zero_le _, rfl, HT.out, HP.out.1, HP.out.2⟩
  case round =>
    clear HT
    obtain ⟨k, s1, hk, rfl, hT, hsP, hsW⟩ := hrel
    have HT := Lib.hid hT
    have HSP := Lib.hid (And.intro hsP hsW)
    clear hT hsP hsW
    by_cases hlt : k < e1
    · obtain rfl : A1 = some ⟨bs1, off1, none⟩ := HS1.out.at_.resolve_right (by omega)
      obtain ⟨A', n', c', l8, hcl, hl8, hone⟩ := HS1.out.one k hlt
      have HONE := Lib.hid hone
      obtain ⟨s0, t1, t2, hI8⟩ := hone _ HT.out.bel
      have HI8 := Lib.hid hI8
      have b1' : (k : Int) < (e1 : Int) := by omega
      have b0 : (0 : Int) ≤ (k : Int) := by omega
      have HWS := Lib.hid (fun w' => words_step (K1 k) (N1 k) A' n' c' w' hcl)
      have HKS := Lib.hid (fun w' => kind_step (K1 k) (N1 k) (.slice A' n' c') w')
      clear hI8 hone
      generalize min n' 8 = n8 at *
      generalize kindOf (K1 k) = kd at *
      go_wp2_with fail
      refine (HWS.out _).mono ?_
      rintro e w5 ⟨rfl, hb⟩
      have HPU := Lib.hid (two_push (HT.out.below hb) (HI8.out.below hb) (by omega))
      clear hb
      go_wp2_with fail
      refine HPU.out.mono ?_
      rintro e w6 ⟨rfl, hT6⟩
      have HPO := Lib.hid (two_pop hT6)
      clear hT6 HPU HI8 HWS
      go_wp2_with fail
      refine HPO.out.mono ?_
      rintro e w7 ⟨rfl, hT7⟩
      obtain ⟨s0, t1, t2, -⟩ := HONE.out _ hT7.bel
      have HT7 := Lib.hid hT7
      clear hT7 HPO HONE
      go_wp2_with fail
      refine (HKS.out _).mono ?_
      rintro e w8 ⟨rfl, hb⟩
      have HST := Lib.hid (two_step (HT7.out.below hb) (decide (kd < 5)))
      have HX := Lib.hid (show (((s1.pushR l8).1.popR.1.step (decide (kd < 5))).1.P = P ∧ ((s1.pushR l8).1.popR.1.step (decide (kd < 5))).1.W = 2) from
        ⟨(step_P _ _).1.trans ((popR_P _).1.trans ((pushR_P _ _).1.trans HSP.out.1)), (step_P _ _).2.trans ((popR_P _).2.trans ((pushR_P _ _).2.trans HSP.out.2))⟩)
      clear hb HT7 HKS HT HSP
      generalize (s1.pushR l8).1.popR.1.step (decide (kd < 5)) = r1 at *
      go_wp2_with fail
      refine HST.out.mono ?_
      rintro e w9 ⟨A9, c9, rfl, hT9, -, -⟩
      have HT9 := Lib.hid hT9.less
      clear hT9 HST
      go_wp2
      go_roundw
      case rel => exact ⟨k + 1, _, by omega, by go_num, HT9.out, HX.out.1, HX.out.2⟩
      case measure => simp [intOf]; omega
    · obtain rfl : k = e1 := by omega
      have b1' : ¬ (k : Int) < (k : Int) := by omega
      have HR := Lib.hid (two_reset HT.out)
      rw [HSP.out.1, HSP.out.2] at HR
      clear HT HSP
      go_wp2_with fail
      refine HR.out.mono ?_
      rintro e w4 ⟨rfl, hT4⟩
      have HT := Lib.hid hT4
      clear hT4 HR
      go_wp2_with fail
      generalize RS.new P 2 = t0 at *
      go_loopw [10, 11, 12, 13, 14, 15, 16] (fun i _ _ _ _ _ _ wx => ∃ (k : Nat) (t : RS), k ≤ e2 ∧ i = .int .i64 k ∧ Two w wx b1 m1 l1 t nob b2 m2 l2 t nob) (fun i _ _ _ _ _ _ _ => e2 - (intOf i).toNat)
      case atStart => exact ⟨0, t0, Nat.zero_le _, rfl, HT.out⟩
      case round =>
        clear HT
        obtain ⟨j, t, hj, rfl, hT⟩ := hrel
        have HT := Lib.hid hT
        clear hT
        by_cases hlt : j < e2
        · obtain rfl : A2 = some ⟨bs2, off2, none⟩ := HS2.out.at_.resolve_right (by omega)
          obtain ⟨A', n', c', l8, hcl, hl8, hone⟩ := HS2.out.one j hlt
          have HONE := Lib.hid hone
          obtain ⟨s0, t1, t2, -⟩ := hone _ HT.out.bel
          have b2' : (j : Int) < (e2 : Int) := by omega
          have b0 : (0 : Int) ≤ (j : Int) := by omega
          have HWS := Lib.hid (fun w' => words_step (K2 j) (N2 j) A' n' c' w' hcl)
          have HKS := Lib.hid (fun w' => kind_step (K2 j) (N2 j) (.slice A' n' c') w')
          clear hone
          generalize min n' 8 = n8 at *
          generalize kindOf (K2 j) = kd at *
          go_wp2_with fail
          go_region_held3 (fun w' => w'.cell? ⟨bs2, off2 + j * 3, none⟩ = some (.int .i64 (K2 j)) ∧ w'.cell? ⟨bs2, off2 + j * 3 + 1, none⟩ = some (.int .i64 (N2 j)) ∧ w'.cell? ⟨bs2, off2 + j * 3 + 2, none⟩ = some (.slice A' n' c'))
            (first | exact ⟨s0, t1, t2⟩)
            (first
              | (go_at_call 23; refine (HWS.out _).mono ?_; rintro e w' ⟨rfl, hb⟩; (first | have hT := HT.out.below hb | have hT := HT.out.drew.below hb); obtain ⟨s0, t1, t2, hi⟩ := HONE.out _ hT.bel; have HT := Lib.hid hT; have HI8 := Lib.hid hi; clear hb hi hT)
              | (go_at_call 17; with_reducible refine (two_push HT.out HI8.out (by omega)).mono ?_; rintro e w' ⟨rfl, hT⟩; obtain ⟨s0, t1, t2, -⟩ := HONE.out _ hT.bel; have HT := Lib.hid hT; clear hT)
              | (go_at_call 17; with_reducible refine (two_push HT.out.swap HI8.out (by omega)).mono ?_; rintro e w' ⟨rfl, hT⟩; obtain ⟨s0, t1, t2, -⟩ := HONE.out _ hT.bel; have HT := Lib.hid hT.swap; clear hT)
              | (go_at_call 20; with_reducible refine (two_pop HT.out).mono ?_; rintro e w' ⟨rfl, hT⟩; obtain ⟨s0, t1, t2, -⟩ := HONE.out _ hT.bel; have HT := Lib.hid hT; clear hT)
              | (go_at_call 20; with_reducible refine (two_pop HT.out.swap).mono ?_; rintro e w' ⟨rfl, hT⟩; obtain ⟨s0, t1, t2, -⟩ := HONE.out _ hT.bel; have HT := Lib.hid hT.swap; clear hT))
          clear HWS HI8
          generalize (t.pushR l8).1.popR.1 = t3 at *
          generalize (t.pushR l8).1.popR.2 = r3 at *
          generalize (t.pushR l8).2 = r4 at *
          go_wp2_with fail
          refine (HKS.out _).mono ?_
          rintro e w5 ⟨rfl, hb⟩
          have hT := HT.out.below hb
          have HST := Lib.hid (two_step hT (decide (kd < 5)))
          have hok := hT.ok1
          clear hb HT hT
          go_wp2_with fail
          refine HST.out.mono ?_
          rintro e w6 ⟨A6, c6, rfl, hT, -, hi⟩
          have HT := Lib.hid hT
          have HI := Lib.hid hi
          obtain ⟨s0, t1, t2, -⟩ := HONE.out _ hT.bel
          clear hT hi HST HONE
          go_wp2_with fail
          refine (HKS.out _).mono ?_
          rintro e w7 ⟨rfl, hb⟩
          have HST := Lib.hid (two_step (HT.out.below hb).swap (decide (kd < 5)))
          have HB7 := Lib.hid hb
          clear hb HT s0 t1 t2 HKS
          go_wp2_with fail
          refine HST.out.mono ?_
          rintro e w8 ⟨A8, c8, rfl, hT, hK, hi⟩
          have HI1 := Lib.hid (HI.out.told HB7.out hK)
          have HI2 := Lib.hid hi
          have HT := Lib.hid hT.swap.less
          have hl6 := step_len hok (decide (kd < 5))
          clear hT hK hi HI HB7 HST hok
          generalize t3.step (decide (kd < 5)) = q at *
          have HSA := Lib.hid (same_yes HI1.out HI2.out (by omega))
          clear HI1 HI2
          go_wp2_with fail
          refine HSA.out.mono ?_
          rintro e w9 ⟨rfl, qn, rfl⟩
          have HT2 := Lib.hid (HT.out.below (below_drewN' _ qn))
          have HCE := Lib.hid (two_cells HT2.out)
          clear HT HSA
          go_wp2_with fail
          refine HCE.out.mono ?_
          rintro e w10 ⟨v10, rfl, hi, hb⟩
          have HI1 := Lib.hid hi
          obtain ⟨A10, c10, rfl⟩ := hi.form
          have HT := Lib.hid (HT2.out.below hb)
          have HCE := Lib.hid (two_cells HT.out.swap)
          clear hi hb HT2
          go_wp2_with fail
          refine HCE.out.mono ?_
          rintro e w11 ⟨v11, rfl, hi, hb⟩
          obtain ⟨A11, c11, rfl⟩ := hi.form
          have hm := mem_len HT.out.ok1
          have HSA := Lib.hid (same_yes (HI1.out.below hb) hi (by omega))
          have HT2 := Lib.hid (HT.out.below hb)
          clear hi hb HT HI1 HCE hm
          go_wp2_with fail
          refine HSA.out.mono ?_
          rintro e w12 ⟨rfl, qn2, rfl⟩
          have HT := Lib.hid (HT2.out.below (below_drewN' _ qn2))
          clear HT2 HSA
          go_wp2
          go_roundw
          case rel => exact ⟨j + 1, _, by omega, by go_num, HT.out⟩
          case measure => simp [intOf]; omega
        · have hB := Lib.hid HT.out.bel
          obtain rfl : j = e2 := by omega
          have b2' : ¬ (j : Int) < (j : Int) := by omega
          clear HT
          go_wp2
          go_ret
          exact ⟨rfl, hB.out⟩
end Go.Proofs.YtelfclcljdjohaaDoor
