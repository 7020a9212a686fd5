/- CellPlays: what a memory answers is what the reference says. -/
import Derived.Test.YtkamcjejongmbaaDoorCellPut
import Derived.Deep.CutBlock
import Derived.Deep.DeepCutAuto
namespace Go.Proofs.YtkamcjejongmbaaDoor
open Go.RowKit

theorem reset_len2 (s : CS) (a k : Int) : (s.reset a k).1.l.length = s.l.length := by
  unfold CS.reset
  split
  · exact zeroed_len _ _ _ (by unfold CS.fits at *; omega)
  · rfl
theorem arg_small (x : Int) (h : 200 < x ∧ x ≤ 4096) : argOf x = x.tmod 200 := by unfold argOf; rw [if_pos h]
theorem arg_else (x : Int) (h : ¬ (200 < x ∧ x ≤ 4096)) : argOf x = x := by unfold argOf; rw [if_neg h]
set_option maxRecDepth 100000 in
set_option maxHeartbeats 3200000 in
theorem law_cellPlays (x : Int) (A : Option Addr) (len cap : Nat) (l : List St) {w : World} (hE : ErrT w) (hs : StsIn w (.slice A len cap) l) (hlc : len ≤ cap) (hcap : cap ≤ maxLen) :
    Calls Tryd.prog 7 #[.int .i64 x, .slice A len cap] w fun r w' => r = .returned (.bool true) ∧ Below w.heap.size w w' := by
  have HL := Lib.hid (lives_any hE (Below.refl _ w))
  have HA := Lib.hid (fun W => early_any A len cap W hlc hcap)
  have HS0 := hs.take (m := min len 80) (by omega)
  have hn : min len 80 = (l.take (min len 80)).length := by
    obtain ⟨_, _, e, _⟩ := HS0
    injection e
  generalize l.take (min len 80) = L at *
  rw [hn] at HS0
  have HS := Lib.hid HS0
  have hL80 : L.length ≤ 80 := by omega
  have HA' := Lib.hid (show ∀ W, Calls Tryd.prog 20 #[.slice A len cap] W fun e w' => e = .returned (.slice A L.length cap) ∧ W = w' from fun W => by have := HA.out W; rw [hn] at this; exact this)
  have HE := Lib.hid hE
  clear hE HS0 hs HA hn hlc hcap
  go_enter Tryd.func7, Tryd.ntmps7
  go_wp2_with fail
  refine HL.out.mono ?_
  rintro r w1 ⟨rfl, hb⟩
  have HB := Lib.hid hb
  clear hb HL
  go_upto_region 3 with (fail)
  go_cut [31] (fun v wx => v = .bool (decide (200 < x ∧ x ≤ 4096)) ∧ w1 = wx)
  case first =>
    by_cases h1 : 200 < x
    · by_cases h2 : x ≤ 4096
      · go_wp2
        go_meet
        exact ⟨congrArg Value.bool (decide_eq_true (p := 200 < x ∧ x ≤ 4096) ⟨h1, h2⟩).symm, rfl⟩
      · have h3 : decide (x ≤ 4096) = false := by simp; omega
        go_wp2
        go_meet
        exact ⟨congrArg Value.bool (decide_eq_false (p := 200 < x ∧ x ≤ 4096) (by omega)).symm, rfl⟩
    · have h3 : decide (200 < x) = false := by simp; omega
      go_wp2
      go_meet
      exact ⟨congrArg Value.bool (decide_eq_false (p := 200 < x ∧ x ≤ 4096) (by omega)).symm, rfl⟩
  case rest =>
    obtain ⟨rfl, rfl⟩ := hcut
    go_upto_if 31 with (fail)
    go_cut [0] (fun v wx => v = .int .i64 (argOf x) ∧ w1 = wx)
    case first =>
      by_cases h1 : 200 < x ∧ x ≤ 4096
      · have hd := decide_eq_true h1
        have ha := arg_small x h1
        have hm := Int.tmod_eq_emod_of_nonneg (a := x) (b := 200) (by omega)
        go_wp2
        go_meet
        exact ⟨by rw [ha, hm], rfl⟩
      · have hd := decide_eq_false h1
        have ha := arg_else x h1
        go_wp2
        go_meet
        exact ⟨by rw [ha], rfl⟩
    case rest =>
      obtain ⟨rfl, rfl⟩ := hcut
      have HN := Lib.hid (mnew_int (argOf x) (cellsOf x) w1 (cellsOf_le x) (cellsOf_eq x))
      have HR := Lib.hid (fun w2 => rnew_int (argOf x) (cellsOf x) w2 (cellsOf_le x) (cellsOf_eq x))
      have hle := cellsOf_le x
      generalize argOf x = ax at *
      generalize cellsOf x = n at *
      go_wp2_with fail
      refine HN.out.mono ?_
      rintro r w2 ⟨rfl, hM, hb2⟩
      have hC : CCtx w w2 (w1.heap.size + 1) w1.heap.size ⟨List.replicate n 0, 0⟩ := ⟨hM, HE.out, HB.out.trans (hb2.mono HB.out.size), by have := HB.out.size; omega, HB.out.size⟩
      have hm : w1.heap.size + 1 < w2.heap.size ∧ w1.heap.size < w2.heap.size := ⟨hM.m.lt, hM.d.lt⟩
      generalize w1.heap.size + 1 = ma at *
      generalize w1.heap.size = la at *
      have HC := Lib.hid hC
      clear HN hM hC hb2
      go_wp2_with fail
      refine (HR.out w2).mono ?_
      rintro r w3 ⟨v3, rfl, ⟨A3, c3, rfl, hI, hT⟩, hb3⟩
      have hP : PC w (w3.alloc (.cells #[.slice A3 n c3, .int .i64 0] 45)) w2.heap.size ma la w3.heap.size ⟨List.replicate n 0, 0⟩ A3 c3 := by
        simp only [List.length_replicate] at hI hT
        exact ⟨(HC.out.below hb3).below (below_alloc (Nat.le_refl _) _), by simpa using Blk.new w3 45 #[.slice A3 n c3, .int .i64 0], by simpa using hI.below (below_alloc (Nat.le_refl _) _), by simpa using hT.below (below_alloc (Nat.le_refl _) _)⟩
      simp only [List.length_replicate]
      have HP := Lib.hid hP
      have hsz := hb3.size
      clear HR HC hI hT hb3 hP
      go_wp2_with (go_at_call 20; refine (HA'.out _).mono ?_; rintro r w9 ⟨rfl, rfl⟩)
      have hms := HP.out.C.ge2
      have hme := HP.out.C.ge1
      have HO := Lib.hid (show Off w w2.heap.size ma la w3.heap.size from ⟨by rintro k (rfl | rfl) <;> omega, by unfold memS; omega, by omega, by omega⟩)
      have HBW := Lib.hid (show w2.heap.size ≤ w3.heap.size from hsz)
      generalize hw4 : w3.alloc (.cells #[.slice A3 n c3, .int .i64 0] 45) = w4 at *
      generalize w3.heap.size = rb at *
      generalize w2.heap.size = B at *
      clear hw4 hms hme hm hsz HA' HB
      go_loopw [7] (fun i wr => ∃ k : Nat, k ≤ L.length ∧ i = .int .i64 k ∧ ∃ s A c, PC w wr B ma la rb s A c ∧ s.l.length ≤ 4096 ∧ s.c ≤ k) (fun i _ => L.length - (intOf i).toNat)
      case atStart => exact ⟨0, Nat.zero_le _, rfl, _, _, _, HP.out, by simpa using hle, Nat.le_refl _⟩
      case round =>
        obtain ⟨k, hk, rfl, s, A4, c4, hP, hsl, hsc⟩ := hrel
        clear HP hle
        by_cases hlt : k < L.length
        · have hS := HS.out.below hP.C.bel
          obtain ⟨_, _, e, hl2, hc⟩ := hS
          injection e with e1 _ e3
          subst e1 e3
          obtain ⟨g, o, rfl, hcell⟩ := hc (by omega)
          obtain ⟨hst, hfit⟩ := hcell k hlt
          obtain ⟨s0, s1, s2⟩ := hst
          have b0 : (0 : Int) ≤ (k : Int) := by omega
          have b1 : (k : Int) < (L.length : Int) := by omega
          have HF := Lib.hid hfit
          have HK := Lib.hid (kind_any L[k].k L[k].i L[k].v)
          have hkk := kind_cases L[k].k
          generalize kindOf L[k].k = kd at *
          generalize L[k] = st at *
          have hcc : s.c < 4611686018427387904 := by omega
          have HP := Lib.hid hP
          have hBW := Nat.le_trans (Nat.le_trans HBW.out (Nat.le_of_lt hP.box.lt)) (Nat.le_refl _)
          clear hcell hc hP hfit
          rcases hkk with rfl | rfl | rfl | rfl
          · go_wp2_with fail
            refine (HK.out _).mono ?_
            rintro r w4 ⟨rfl, hb⟩
            have HP4 := Lib.hid ((HP.out.below (below_alloc (Nat.le_refl _) (.cells #[.int .i64 st.k, .int .i64 st.i, .int .i64 st.v] 28))).below hb)
            have HSB := Lib.hid ((Blk.new wr 28 #[.int .i64 st.k, .int .i64 st.i, .int .i64 st.v]).below hb (by simp))
            have hsr : wr.heap.size ≠ rb := by have := HP.out.box.lt; omega
            have HB4 := Lib.hid (show B ≤ w4.heap.size from Nat.le_trans hBW (Nat.le_trans (by simp) hb.size))
            have d0 := HP4.out.c0
            have d1 := HP4.out.c1
            have g1 : w4.cell? ⟨wr.heap.size, 1, none⟩ = some (.int .i64 st.i) := (HSB.out.cell 1).trans rfl
            have g2 : w4.cell? ⟨wr.heap.size, 2, none⟩ = some (.int .i64 st.v) := (HSB.out.cell 2).trans rfl
            have HRR := Lib.hid (rread_rm (B := B) (s := s) ⟨A4, c4, rfl, HP4.out.I, HP4.out.T⟩ hcc st.i)
            have HMM := Lib.hid (fun W5 (hC5 : CCtx w W5 ma la s) => cctx_read hC5 hcc st.i)
            have hl' : (s.read st.i).1.l.length ≤ 4096 := by rw [show (s.read st.i).1.l = s.l from by unfold CS.read; split <;> rfl]; exact hsl
            have hc' : (s.read st.i).1.c ≤ k + 1 := by unfold CS.read; split <;> simp <;> omega
            generalize (s.read st.i).1 = s' at *
            generalize (s.read st.i).2.1 = y at *
            generalize (s.read st.i).2.2 = er at *
            clear HP hb HK
            go_wp2_with fail
            refine HRR.out.mono ?_
            rintro r w5 ⟨v5, rfl, hR5, hb5⟩
            obtain ⟨A5, c5, rfl, hI5, hT5⟩ := hR5
            have hx5 := HP4.out.box.below hb5 HP4.out.box.lt
            have e0 : w5.cell? ⟨rb, 0, none⟩ = some (.slice A4 s.l.length c4) := (hx5.cell 0).trans rfl
            have e1 : w5.cell? ⟨rb, 1, none⟩ = some (.int .i64 s.c) := (hx5.cell 1).trans rfl
            have f0 := hx5.fr 0
            have f1 := hx5.fr 1
            have l5 := hx5.lt
            have n5 : rb ≠ w5.heap.size := by omega
            have n6 : w5.heap.size ≠ rb := by omega
            have hs5 := HSB.out.below hb5 HSB.out.lt
            have m1 : w5.cell? ⟨wr.heap.size, 1, none⟩ = some (.int .i64 st.i) := (hs5.cell 1).trans rfl
            have m2 : w5.cell? ⟨wr.heap.size, 2, none⟩ = some (.int .i64 st.v) := (hs5.cell 2).trans rfl
            have hs6 := ((hs5.far (p := ⟨rb, 0, none⟩) hsr (.slice A5 s'.l.length c5)).far (p := ⟨rb, 1, none⟩) hsr (.int .i64 s'.c)).alloc (.cells #[.slice A5 s'.l.length c5, .int .i64 s'.c] 45)
            have o1 := (hs6.cell 1).trans (show _ = some (.int .i64 st.i) from rfl)
            have o2 := (hs6.cell 2).trans (show _ = some (.int .i64 st.v) from rfl)
            have HX := PC.put HO.out (HP4.out.C.below hb5) hx5 hI5 hT5 (.cells #[.slice A5 s'.l.length c5, .int .i64 s'.c] 45)
            have HXX := Lib.hid HX
            have HM5 := Lib.hid (HMM.out _ HX.1)
            unfold boxW at HM5
            clear HX hx5 hs5 hs6 hI5 hT5 hb5 HP4 HSB HRR HMM d0 d1 g1 g2
            go_wp2_with fail
            refine HM5.out.mono ?_
            rintro r w6 ⟨rfl, hC6, hO6⟩
            have HP6 := Lib.hid (PC.mem HO.out HXX.out.2.1 HXX.out.2.2.1 HXX.out.2.2.2 hC6 hO6)
            clear HXX HM5 hC6 hO6 e0 e1 f0 f1 m1 m2 o1 o2
            have hP6 := HP6.out
            have d0 := hP6.c0
            have d1 := hP6.c1
            go_wp2
            go_region_held3 (fun w' => PC w w' B ma la rb s' A5 c5 ∧ w'.cell? ⟨rb, 0, none⟩ = some (.slice A5 (s').l.length c5) ∧ w'.cell? ⟨rb, 1, none⟩ = some (.int .i64 (s').c))
              (first | exact ⟨hP6, d0, d1⟩ | exact ⟨hP6.drew, d0, d1⟩)
              (first
                | (go_at_call 19; refine (cctx_len (by first | exact hP6.C | exact hP6.drew.C)).mono ?_; rintro r w' ⟨rfl, rfl⟩)
                | (go_at_call 17; refine (cctx_count (by first | exact hP6.C | exact hP6.drew.C)).mono ?_; rintro r w' ⟨rfl, rfl⟩)
                | (go_at_call 16; refine (cctx_all (by first | exact hP6.C | exact hP6.drew.C)).mono ?_; rintro r w' ⟨v1, rfl, hO, -, hb⟩; have hP6 := (show PC w w' B ma la rb s' A5 c5 from by first | exact hP6.below hb | exact hP6.drew.below hb); have d0 := hP6.c0; have d1 := hP6.c1)
                | (go_at_call 18; refine (same_yes (l := (s').l) (by first | exact IntsIn.of_own hO rfl | exact (IntsIn.of_own hO rfl).drewN 1) (by first | exact hP6.I | exact hP6.drew.I) (by omega)).mono ?_; rintro r w' ⟨rfl, k9, rfl⟩; have hP6 := hP6.drewN k9; have d0 := hP6.c0; have d1 := hP6.c1))
            have HP7 := Lib.hid hP6
            go_wp2
            go_roundw
            case rel => exact ⟨k + 1, by omega, by go_num, _, _, _, HP7.out, hl', by omega⟩
            case measure => simp [intOf]; omega
          · go_wp2_with fail
            refine (HK.out _).mono ?_
            rintro r w4 ⟨rfl, hb⟩
            have HP4 := Lib.hid ((HP.out.below (below_alloc (Nat.le_refl _) (.cells #[.int .i64 st.k, .int .i64 st.i, .int .i64 st.v] 28))).below hb)
            have HSB := Lib.hid ((Blk.new wr 28 #[.int .i64 st.k, .int .i64 st.i, .int .i64 st.v]).below hb (by simp))
            have hsr : wr.heap.size ≠ rb := by have := HP.out.box.lt; omega
            have HB4 := Lib.hid (show B ≤ w4.heap.size from Nat.le_trans hBW (Nat.le_trans (by simp) hb.size))
            have d0 := HP4.out.c0
            have d1 := HP4.out.c1
            have g1 : w4.cell? ⟨wr.heap.size, 1, none⟩ = some (.int .i64 st.i) := (HSB.out.cell 1).trans rfl
            have g2 : w4.cell? ⟨wr.heap.size, 2, none⟩ = some (.int .i64 st.v) := (HSB.out.cell 2).trans rfl
            have HRR := Lib.hid (rwrite_rm (B := B) (s := s) ⟨A4, c4, rfl, HP4.out.I, HP4.out.T⟩ HB4.out hcc hsl st.i st.v)
            have HMM := Lib.hid (fun W5 (hC5 : CCtx w W5 ma la s) => cctx_write hC5 hcc st.i st.v)
            have hl' : (s.swap st.i st.v).1.l.length ≤ 4096 := by unfold CS.swap; split <;> simp <;> exact hsl
            have hc' : (s.swap st.i st.v).1.c ≤ k + 1 := by unfold CS.swap; split <;> simp <;> omega
            generalize (s.swap st.i st.v).1 = s' at *
            generalize (s.swap st.i st.v).2.1 = y at *
            generalize (s.swap st.i st.v).2.2 = er at *
            clear HP hb HK
            go_wp2_with fail
            refine HRR.out.mono ?_
            rintro r w5 ⟨v5, rfl, hR5, hb5⟩
            obtain ⟨A5, c5, rfl, hI5, hT5⟩ := hR5
            have hx5 := HP4.out.box.below hb5 HP4.out.box.lt
            have e0 : w5.cell? ⟨rb, 0, none⟩ = some (.slice A4 s.l.length c4) := (hx5.cell 0).trans rfl
            have e1 : w5.cell? ⟨rb, 1, none⟩ = some (.int .i64 s.c) := (hx5.cell 1).trans rfl
            have f0 := hx5.fr 0
            have f1 := hx5.fr 1
            have l5 := hx5.lt
            have n5 : rb ≠ w5.heap.size := by omega
            have n6 : w5.heap.size ≠ rb := by omega
            have hs5 := HSB.out.below hb5 HSB.out.lt
            have m1 : w5.cell? ⟨wr.heap.size, 1, none⟩ = some (.int .i64 st.i) := (hs5.cell 1).trans rfl
            have m2 : w5.cell? ⟨wr.heap.size, 2, none⟩ = some (.int .i64 st.v) := (hs5.cell 2).trans rfl
            have hs6 := ((hs5.far (p := ⟨rb, 0, none⟩) hsr (.slice A5 s'.l.length c5)).far (p := ⟨rb, 1, none⟩) hsr (.int .i64 s'.c)).alloc (.cells #[.slice A5 s'.l.length c5, .int .i64 s'.c] 45)
            have o1 := (hs6.cell 1).trans (show _ = some (.int .i64 st.i) from rfl)
            have o2 := (hs6.cell 2).trans (show _ = some (.int .i64 st.v) from rfl)
            have HX := PC.put HO.out (HP4.out.C.below hb5) hx5 hI5 hT5 (.cells #[.slice A5 s'.l.length c5, .int .i64 s'.c] 45)
            have HXX := Lib.hid HX
            have HM5 := Lib.hid (HMM.out _ HX.1)
            unfold boxW at HM5
            clear HX hx5 hs5 hs6 hI5 hT5 hb5 HP4 HSB HRR HMM d0 d1 g1 g2
            go_wp2_with fail
            refine HM5.out.mono ?_
            rintro r w6 ⟨rfl, hC6, hO6⟩
            have HP6 := Lib.hid (PC.mem HO.out HXX.out.2.1 HXX.out.2.2.1 HXX.out.2.2.2 hC6 hO6)
            clear HXX HM5 hC6 hO6 e0 e1 f0 f1 m1 m2 o1 o2
            have hP6 := HP6.out
            have d0 := hP6.c0
            have d1 := hP6.c1
            go_wp2
            go_region_held3 (fun w' => PC w w' B ma la rb s' A5 c5 ∧ w'.cell? ⟨rb, 0, none⟩ = some (.slice A5 (s').l.length c5) ∧ w'.cell? ⟨rb, 1, none⟩ = some (.int .i64 (s').c))
              (first | exact ⟨hP6, d0, d1⟩ | exact ⟨hP6.drew, d0, d1⟩)
              (first
                | (go_at_call 19; refine (cctx_len (by first | exact hP6.C | exact hP6.drew.C)).mono ?_; rintro r w' ⟨rfl, rfl⟩)
                | (go_at_call 17; refine (cctx_count (by first | exact hP6.C | exact hP6.drew.C)).mono ?_; rintro r w' ⟨rfl, rfl⟩)
                | (go_at_call 16; refine (cctx_all (by first | exact hP6.C | exact hP6.drew.C)).mono ?_; rintro r w' ⟨v1, rfl, hO, -, hb⟩; have hP6 := (show PC w w' B ma la rb s' A5 c5 from by first | exact hP6.below hb | exact hP6.drew.below hb); have d0 := hP6.c0; have d1 := hP6.c1)
                | (go_at_call 18; refine (same_yes (l := (s').l) (by first | exact IntsIn.of_own hO rfl | exact (IntsIn.of_own hO rfl).drewN 1) (by first | exact hP6.I | exact hP6.drew.I) (by omega)).mono ?_; rintro r w' ⟨rfl, k9, rfl⟩; have hP6 := hP6.drewN k9; have d0 := hP6.c0; have d1 := hP6.c1))
            have HP7 := Lib.hid hP6
            go_wp2
            go_roundw
            case rel => exact ⟨k + 1, by omega, by go_num, _, _, _, HP7.out, hl', by omega⟩
            case measure => simp [intOf]; omega
          · go_wp2_with fail
            refine (HK.out _).mono ?_
            rintro r w4 ⟨rfl, hb⟩
            have HP4 := Lib.hid ((HP.out.below (below_alloc (Nat.le_refl _) (.cells #[.int .i64 st.k, .int .i64 st.i, .int .i64 st.v] 28))).below hb)
            have HSB := Lib.hid ((Blk.new wr 28 #[.int .i64 st.k, .int .i64 st.i, .int .i64 st.v]).below hb (by simp))
            have hsr : wr.heap.size ≠ rb := by have := HP.out.box.lt; omega
            have HB4 := Lib.hid (show B ≤ w4.heap.size from Nat.le_trans hBW (Nat.le_trans (by simp) hb.size))
            have d0 := HP4.out.c0
            have d1 := HP4.out.c1
            have g1 : w4.cell? ⟨wr.heap.size, 1, none⟩ = some (.int .i64 st.i) := (HSB.out.cell 1).trans rfl
            have g2 : w4.cell? ⟨wr.heap.size, 2, none⟩ = some (.int .i64 st.v) := (HSB.out.cell 2).trans rfl
            have HRR := Lib.hid (rswap_rm (B := B) (s := s) ⟨A4, c4, rfl, HP4.out.I, HP4.out.T⟩ HB4.out hcc hsl st.i st.v)
            have HMM := Lib.hid (fun W5 (hC5 : CCtx w W5 ma la s) => cctx_swap hC5 hcc st.i st.v)
            have hl' : (s.swap st.i st.v).1.l.length ≤ 4096 := by unfold CS.swap; split <;> simp <;> exact hsl
            have hc' : (s.swap st.i st.v).1.c ≤ k + 1 := by unfold CS.swap; split <;> simp <;> omega
            generalize (s.swap st.i st.v).1 = s' at *
            generalize (s.swap st.i st.v).2.1 = y at *
            generalize (s.swap st.i st.v).2.2 = er at *
            clear HP hb HK
            go_wp2_with fail
            refine HRR.out.mono ?_
            rintro r w5 ⟨v5, rfl, hR5, hb5⟩
            obtain ⟨A5, c5, rfl, hI5, hT5⟩ := hR5
            have hx5 := HP4.out.box.below hb5 HP4.out.box.lt
            have e0 : w5.cell? ⟨rb, 0, none⟩ = some (.slice A4 s.l.length c4) := (hx5.cell 0).trans rfl
            have e1 : w5.cell? ⟨rb, 1, none⟩ = some (.int .i64 s.c) := (hx5.cell 1).trans rfl
            have f0 := hx5.fr 0
            have f1 := hx5.fr 1
            have l5 := hx5.lt
            have n5 : rb ≠ w5.heap.size := by omega
            have n6 : w5.heap.size ≠ rb := by omega
            have hs5 := HSB.out.below hb5 HSB.out.lt
            have m1 : w5.cell? ⟨wr.heap.size, 1, none⟩ = some (.int .i64 st.i) := (hs5.cell 1).trans rfl
            have m2 : w5.cell? ⟨wr.heap.size, 2, none⟩ = some (.int .i64 st.v) := (hs5.cell 2).trans rfl
            have hs6 := ((hs5.far (p := ⟨rb, 0, none⟩) hsr (.slice A5 s'.l.length c5)).far (p := ⟨rb, 1, none⟩) hsr (.int .i64 s'.c)).alloc (.cells #[.slice A5 s'.l.length c5, .int .i64 s'.c] 45)
            have o1 := (hs6.cell 1).trans (show _ = some (.int .i64 st.i) from rfl)
            have o2 := (hs6.cell 2).trans (show _ = some (.int .i64 st.v) from rfl)
            have HX := PC.put HO.out (HP4.out.C.below hb5) hx5 hI5 hT5 (.cells #[.slice A5 s'.l.length c5, .int .i64 s'.c] 45)
            have HXX := Lib.hid HX
            have HM5 := Lib.hid (HMM.out _ HX.1)
            unfold boxW at HM5
            clear HX hx5 hs5 hs6 hI5 hT5 hb5 HP4 HSB HRR HMM d0 d1 g1 g2
            go_wp2_with fail
            refine HM5.out.mono ?_
            rintro r w6 ⟨rfl, hC6, hO6⟩
            have HP6 := Lib.hid (PC.mem HO.out HXX.out.2.1 HXX.out.2.2.1 HXX.out.2.2.2 hC6 hO6)
            clear HXX HM5 hC6 hO6 e0 e1 f0 f1 m1 m2 o1 o2
            have hP6 := HP6.out
            have d0 := hP6.c0
            have d1 := hP6.c1
            go_wp2
            go_region_held3 (fun w' => PC w w' B ma la rb s' A5 c5 ∧ w'.cell? ⟨rb, 0, none⟩ = some (.slice A5 (s').l.length c5) ∧ w'.cell? ⟨rb, 1, none⟩ = some (.int .i64 (s').c))
              (first | exact ⟨hP6, d0, d1⟩ | exact ⟨hP6.drew, d0, d1⟩)
              (first
                | (go_at_call 19; refine (cctx_len (by first | exact hP6.C | exact hP6.drew.C)).mono ?_; rintro r w' ⟨rfl, rfl⟩)
                | (go_at_call 17; refine (cctx_count (by first | exact hP6.C | exact hP6.drew.C)).mono ?_; rintro r w' ⟨rfl, rfl⟩)
                | (go_at_call 16; refine (cctx_all (by first | exact hP6.C | exact hP6.drew.C)).mono ?_; rintro r w' ⟨v1, rfl, hO, -, hb⟩; have hP6 := (show PC w w' B ma la rb s' A5 c5 from by first | exact hP6.below hb | exact hP6.drew.below hb); have d0 := hP6.c0; have d1 := hP6.c1)
                | (go_at_call 18; refine (same_yes (l := (s').l) (by first | exact IntsIn.of_own hO rfl | exact (IntsIn.of_own hO rfl).drewN 1) (by first | exact hP6.I | exact hP6.drew.I) (by omega)).mono ?_; rintro r w' ⟨rfl, k9, rfl⟩; have hP6 := hP6.drewN k9; have d0 := hP6.c0; have d1 := hP6.c1))
            have HP7 := Lib.hid hP6
            go_wp2
            go_roundw
            case rel => exact ⟨k + 1, by omega, by go_num, _, _, _, HP7.out, hl', by omega⟩
            case measure => simp [intOf]; omega
          · go_wp2_with fail
            refine (HK.out _).mono ?_
            rintro r w4 ⟨rfl, hb⟩
            have HP4 := Lib.hid ((HP.out.below (below_alloc (Nat.le_refl _) (.cells #[.int .i64 st.k, .int .i64 st.i, .int .i64 st.v] 28))).below hb)
            have HSB := Lib.hid ((Blk.new wr 28 #[.int .i64 st.k, .int .i64 st.i, .int .i64 st.v]).below hb (by simp))
            have hsr : wr.heap.size ≠ rb := by have := HP.out.box.lt; omega
            have HB4 := Lib.hid (show B ≤ w4.heap.size from Nat.le_trans hBW (Nat.le_trans (by simp) hb.size))
            have d0 := HP4.out.c0
            have d1 := HP4.out.c1
            have g1 : w4.cell? ⟨wr.heap.size, 1, none⟩ = some (.int .i64 st.i) := (HSB.out.cell 1).trans rfl
            have g2 : w4.cell? ⟨wr.heap.size, 2, none⟩ = some (.int .i64 st.v) := (HSB.out.cell 2).trans rfl
            have HRR := Lib.hid (rreset_rm (B := B) (s := s) ⟨A4, c4, rfl, HP4.out.I, HP4.out.T⟩ HB4.out hsl st.i st.v HF.out.2.2 HF.out.2.1)
            have HMM := Lib.hid (fun W5 (hC5 : CCtx w W5 ma la s) => cctx_reset hC5 st.i st.v HF.out.2.2 HF.out.2.1)
            have hl' : (s.reset st.i st.v).1.l.length ≤ 4096 := by rw [reset_len2]; exact hsl
            have hc' : (s.reset st.i st.v).1.c ≤ k + 1 := by unfold CS.reset; split <;> simp <;> omega
            generalize (s.reset st.i st.v).1 = s' at *
            generalize (s.reset st.i st.v).2 = er at *
            clear HP hb HK
            go_wp2_with fail
            refine HRR.out.mono ?_
            rintro r w5 ⟨v5, rfl, hR5, hb5⟩
            obtain ⟨A5, c5, rfl, hI5, hT5⟩ := hR5
            have hx5 := HP4.out.box.below hb5 HP4.out.box.lt
            have e0 : w5.cell? ⟨rb, 0, none⟩ = some (.slice A4 s.l.length c4) := (hx5.cell 0).trans rfl
            have e1 : w5.cell? ⟨rb, 1, none⟩ = some (.int .i64 s.c) := (hx5.cell 1).trans rfl
            have f0 := hx5.fr 0
            have f1 := hx5.fr 1
            have l5 := hx5.lt
            have n5 : rb ≠ w5.heap.size := by omega
            have n6 : w5.heap.size ≠ rb := by omega
            have hs5 := HSB.out.below hb5 HSB.out.lt
            have m1 : w5.cell? ⟨wr.heap.size, 1, none⟩ = some (.int .i64 st.i) := (hs5.cell 1).trans rfl
            have m2 : w5.cell? ⟨wr.heap.size, 2, none⟩ = some (.int .i64 st.v) := (hs5.cell 2).trans rfl
            have hs6 := ((hs5.far (p := ⟨rb, 0, none⟩) hsr (.slice A5 s'.l.length c5)).far (p := ⟨rb, 1, none⟩) hsr (.int .i64 s'.c)).alloc (.cells #[.slice A5 s'.l.length c5, .int .i64 s'.c] 45)
            have o1 := (hs6.cell 1).trans (show _ = some (.int .i64 st.i) from rfl)
            have o2 := (hs6.cell 2).trans (show _ = some (.int .i64 st.v) from rfl)
            have HX := PC.put HO.out (HP4.out.C.below hb5) hx5 hI5 hT5 (.cells #[.slice A5 s'.l.length c5, .int .i64 s'.c] 45)
            have HXX := Lib.hid HX
            have HM5 := Lib.hid (HMM.out _ HX.1)
            unfold boxW at HM5
            clear HX hx5 hs5 hs6 hI5 hT5 hb5 HP4 HSB HRR HMM d0 d1 g1 g2
            go_wp2_with fail
            refine HM5.out.mono ?_
            rintro r w6 ⟨rfl, hC6, hO6⟩
            have HP6 := Lib.hid (PC.mem HO.out HXX.out.2.1 HXX.out.2.2.1 HXX.out.2.2.2 hC6 hO6)
            clear HXX HM5 hC6 hO6 e0 e1 f0 f1 m1 m2 o1 o2
            have hP6 := HP6.out
            have d0 := hP6.c0
            have d1 := hP6.c1
            go_wp2
            go_region_held3 (fun w' => PC w w' B ma la rb s' A5 c5 ∧ w'.cell? ⟨rb, 0, none⟩ = some (.slice A5 (s').l.length c5) ∧ w'.cell? ⟨rb, 1, none⟩ = some (.int .i64 (s').c))
              (first | exact ⟨hP6, d0, d1⟩ | exact ⟨hP6.drew, d0, d1⟩)
              (first
                | (go_at_call 19; refine (cctx_len (by first | exact hP6.C | exact hP6.drew.C)).mono ?_; rintro r w' ⟨rfl, rfl⟩)
                | (go_at_call 17; refine (cctx_count (by first | exact hP6.C | exact hP6.drew.C)).mono ?_; rintro r w' ⟨rfl, rfl⟩)
                | (go_at_call 16; refine (cctx_all (by first | exact hP6.C | exact hP6.drew.C)).mono ?_; rintro r w' ⟨v1, rfl, hO, -, hb⟩; have hP6 := (show PC w w' B ma la rb s' A5 c5 from by first | exact hP6.below hb | exact hP6.drew.below hb); have d0 := hP6.c0; have d1 := hP6.c1)
                | (go_at_call 18; refine (same_yes (l := (s').l) (by first | exact IntsIn.of_own hO rfl | exact (IntsIn.of_own hO rfl).drewN 1) (by first | exact hP6.I | exact hP6.drew.I) (by omega)).mono ?_; rintro r w' ⟨rfl, k9, rfl⟩; have hP6 := hP6.drewN k9; have d0 := hP6.c0; have d1 := hP6.c1))
            have HP7 := Lib.hid hP6
            go_wp2
            go_roundw
            case rel => exact ⟨k + 1, by omega, by go_num, _, _, _, HP7.out, hl', by omega⟩
            case measure => simp [intOf]; omega
        · obtain rfl : k = L.length := by omega
          have hP6 := hP
          have d0 := hP.c0
          have d1 := hP.c1
          clear hlt hP
          go_wp2
          go_region_held3 (fun w' => PC w w' B ma la rb s A4 c4 ∧ w'.cell? ⟨rb, 0, none⟩ = some (.slice A4 (s).l.length c4) ∧ w'.cell? ⟨rb, 1, none⟩ = some (.int .i64 (s).c))
            (first | exact ⟨hP6, d0, d1⟩ | exact ⟨hP6.drew, d0, d1⟩)
            (first
              | (go_at_call 19; refine (cctx_len (by first | exact hP6.C | exact hP6.drew.C)).mono ?_; rintro r w' ⟨rfl, rfl⟩)
              | (go_at_call 17; refine (cctx_count (by first | exact hP6.C | exact hP6.drew.C)).mono ?_; rintro r w' ⟨rfl, rfl⟩)
              | (go_at_call 16; refine (cctx_all (by first | exact hP6.C | exact hP6.drew.C)).mono ?_; rintro r w' ⟨v1, rfl, hO, -, hb⟩; have hP6 := (show PC w w' B ma la rb s A4 c4 from by first | exact hP6.below hb | exact hP6.drew.below hb); have d0 := hP6.c0; have d1 := hP6.c1)
              | (go_at_call 18; refine (same_yes (l := (s).l) (by first | exact IntsIn.of_own hO rfl | exact (IntsIn.of_own hO rfl).drewN 1) (by first | exact hP6.I | exact hP6.drew.I) (by omega)).mono ?_; rintro r w' ⟨rfl, k9, rfl⟩; have hP6 := hP6.drewN k9; have d0 := hP6.c0; have d1 := hP6.c1))
          go_wp2
          go_ret
          first | exact ⟨by simp, hP6.C.bel⟩ | exact ⟨by simp, hP6.C.bel.drew⟩
theorem cellPlays_law (a0 : Int) (A : Option Addr) (len cap : Nat) (l : List St) (W : World) (hs : StsIn W (.slice A len cap) l) (hlc : len ≤ cap) (hcap : cap ≤ maxLen) (hL : laidC W) :
    Calls Tryd.prog 7 #[.int .i64 a0, .slice A len cap] W fun r w' => r = .returned (.bool true) ∧ Below W.heap.size W w' := law_cellPlays a0 A len cap l (err_of_laid hL) hs hlc hcap
end Go.Proofs.YtkamcjejongmbaaDoor
