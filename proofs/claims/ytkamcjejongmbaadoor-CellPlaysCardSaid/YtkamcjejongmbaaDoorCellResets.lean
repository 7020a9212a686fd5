/- CellResets: behind a Reset just those cells have 0. -/
import Derived.Test.YtkamcjejongmbaaDoorCellLast
namespace Go.Proofs.YtkamcjejongmbaaDoor
open Go.RowKit

theorem ints_n {w : World} {v : Value} {l : List Int} {n : Nat} (h : IntsIn w v l) (hl : l.length = n) (hp : 0 < n) :
    ∃ g o c, v = .slice (some ⟨g, o, none⟩) n c ∧ ∀ i, i < n → w.cell? ⟨g, o + i, none⟩ = some (.int .i64 (l.getD i 0)) := by
  obtain ⟨A, c, rfl, hc, k⟩ := h
  subst hl
  obtain ⟨g, o, rfl, d⟩ := k hp
  exact ⟨g, o, c, rfl, fun i hi => by rw [d i hi, List.getD_eq_getElem?_getD, List.getElem?_eq_getElem hi]; rfl⟩
theorem ints_onl {S : Nat → Prop} {w w' : World} {g o n c : Nat} {l : List Int} (h : IntsIn w (.slice (some ⟨g, o, none⟩) n c) l) (hO : Only S w w') (hg : ¬ S g) : IntsIn w' (.slice (some ⟨g, o, none⟩) n c) l := by
  obtain ⟨A, c', e, hl, k⟩ := h
  injection e with e1 e2 e3
  subst e2 e3
  refine ⟨some ⟨g, o, none⟩, c, rfl, hl, fun hp => ?_⟩
  obtain ⟨g', o', e', d⟩ := k hp
  rw [← e1] at e'
  injection e' with e'
  injection e' with e1' e2'
  subst e1' e2'
  exact ⟨g, o, rfl, fun i hi => cell_onl (d i hi) hO hg⟩
theorem zeroed_val (l : List Int) (a n j : Nat) (h : a + n ≤ l.length) (hj : j < l.length) : (zeroed l a n).getD j 0 = if a ≤ j ∧ j < a + n then 0 else l.getD j 0 := by
  rw [List.getD_eq_getElem?_getD, List.getD_eq_getElem?_getD, zeroed_get l a n j h hj]
  split <;> rfl
theorem reset_fits {s : CS} {a m : Nat} (h : a + m ≤ s.l.length) : s.reset a m = (⟨zeroed s.l a m, s.c⟩, 0) := by
  unfold CS.reset
  rw [if_pos (by unfold CS.fits; omega)]
  rfl
theorem reset_not {s : CS} {a m : Nat} (h : s.l.length < a + m) : s.reset a m = (s, 7) := by
  unfold CS.reset
  rw [if_neg (by unfold CS.fits; omega)]
set_option maxRecDepth 100000 in
set_option maxHeartbeats 2000000 in
theorem law_cellResets (A : Option Addr) (len cap : Nat) (l : List St) (f n : Int) {w : World} (hE : ErrT w) (hs : StsIn w (.slice A len cap) l) (_ : len ≤ cap) (_ : cap ≤ maxLen) :
    Calls Tryd.prog 9 #[.slice A len cap, .int .i64 f, .int .i64 n] w fun r w' => r = .returned (.bool true) ∧ Below w.heap.size w w' := by
  have HL := Lib.hid (lives_any hE (Below.refl _ w))
  have HN := Lib.hid (fun w1 (h1 : Below w.heap.size w w1) => cctx_new hE h1 30 (by omega))
  obtain ⟨a, ha, hea⟩ := mod_nat f 31 (by omega)
  obtain ⟨m, hm, hem⟩ := mod_nat n 31 (by omega)
  have HEA := Lib.hid (show wrap64 ((IntKind.u64.wrap f).tmod 31) = (a : Int) from hea)
  have HEM := Lib.hid (show wrap64 ((IntKind.u64.wrap n).tmod 31) = (m : Int) from hem)
  clear hea hem
  obtain rfl : len = l.length := by
    obtain ⟨_, _, e, _⟩ := hs
    injection e
  have hll : l.length ≤ cap := by assumption
  have HS := Lib.hid hs
  clear hE hs
  go_enter Tryd.func9, Tryd.ntmps9
  go_wp2_with fail
  refine HL.out.mono ?_
  rintro r w1 ⟨rfl, hb⟩
  have HB := Lib.hid hb
  clear hb HL
  go_wp2_with fail
  refine (HN.out w1 HB.out).mono ?_
  rintro r w2 ⟨rfl, hC, -⟩
  generalize w1.heap.size + 1 = ma at *
  generalize w1.heap.size = la at *
  have HC2 := Lib.hid hC
  clear HN hC HB
  go_wp2
  go_loopw [8] (fun i wr => ∃ k : Nat, k ≤ l.length ∧ k ≤ 60 ∧ i = .int .i64 k ∧ ∃ s : CS, CCtx w wr ma la s ∧ s.l.length = 30 ∧ s.c ≤ k) (fun i _ => l.length - (intOf i).toNat)
  case atStart => exact ⟨0, Nat.zero_le _, by omega, rfl, _, HC2.out, by simp, Nat.le_refl _⟩
  case round =>
    obtain ⟨k, hk, hk60, rfl, s, hC, hsl, hsc⟩ := hrel
    clear HC2
    have HC := Lib.hid hC
    by_cases hlt : k < l.length
    · by_cases hlt6 : k < 60
      · have hS := HS.out.below hC.bel
        obtain ⟨_, _, e, hl2, hc⟩ := hS
        injection e with e1 _ e3
        subst e1 e3
        obtain ⟨g, o, rfl, hcell⟩ := hc (by omega)
        obtain ⟨hst, -⟩ := hcell k hlt
        obtain ⟨-, s1, s2⟩ := hst
        have b0 : (0 : Int) ≤ (k : Int) := by omega
        have b1 : (k : Int) < (l.length : Int) := by omega
        have b2 : (k : Int) < 60 := by omega
        have hcc : s.c < 4611686018427387904 := by omega
        generalize l[k].i = i at *
        generalize l[k].v = v at *
        clear hcell hc hC
        go_wp2_with fail
        go_still_tail 14, (by kernel_rfl)
        change wpList _ _ _ _ _ wr.drew
        have HCD := Lib.hid HC.out.drew
        clear HC
        generalize wr.drew = wd at *
        go_wp2_with fail
        refine (cctx_write HCD.out hcc _ v).mono ?_
        rintro r w5 ⟨rfl, hC, -⟩
        have HC5 := Lib.hid hC
        clear hC HCD
        go_wp2
        go_roundw
        case rel => exact ⟨k + 1, by omega, by omega, by go_num, _, HC5.out, by rw [swap_len]; exact hsl, by have := swap_c s (wrap64 ((IntKind.u64.wrap i).tmod 30)) v; omega⟩
        case measure => simp [intOf]; omega
      · have b1 : (k : Int) < (l.length : Int) := by omega
        have b2 : ¬ (k : Int) < 60 := by omega
        clear hC hlt hlt6 hk hk60 hll hsc
        go_wp2_with fail
        refine (cctx_all HC.out).mono ?_
        rintro r w4 ⟨v1, rfl, hO, hC, -⟩
        obtain ⟨g1, o1, c1, rfl, d1⟩ := ints_n (IntsIn.of_own hO rfl) hsl (by omega)
        have hgo := hO.lt g1 rfl
        have hI1 := IntsIn.of_own hO rfl
        have HFAR := Lib.hid (show ¬ memS ma la g1 from by have h1 := HC.out.at_.m.lt; have h2 := HC.out.at_.d.lt; unfold memS; omega)
        clear HC hO d1 hgo
        have HC := Lib.hid hC
        have HI1 := Lib.hid hI1
        clear hC hI1
        go_wp2_with fail
        refine (cctx_count HC.out).mono ?_
        rintro r w4 ⟨rfl, rfl⟩
        go_wp2_with fail
        rw [HEA.out, HEM.out]
        clear HEA HEM
        by_cases hfit : a + m ≤ 30
        · have hr := reset_fits (s := s) (a := a) (m := m) (by omega)
          have hsz : (zeroed s.l a m).length = 30 := by rw [zeroed_len _ _ _ (by omega)]; exact hsl
          have hzv := Lib.hid (zeroed_val s.l a m)
          refine (cctx_reset HC.out a m (by omega) (by omega)).mono ?_
          rw [hr]
          rintro r w5 ⟨rfl, hC, hO5⟩
          have HC5 := Lib.hid hC
          have HI5 := Lib.hid (show IntsIn w5 (.slice (some ⟨g1, o1, none⟩) 30 c1) s.l from ints_onl HI1.out hO5 HFAR.out)
          clear hC hO5 HI1 HC hr
          go_wp2_with fail
          refine (cctx_all HC5.out).mono ?_
          rintro r w6 ⟨v2, rfl, hO, hC, hb⟩
          obtain ⟨g2, o2, c2, rfl, d2⟩ := ints_n (IntsIn.of_own hO rfl) hsz (by omega)
          have HI6 := HI5.out.below hb
          have HC6 := Lib.hid hC
          clear hO hC hb HI5 HC5
          obtain ⟨g1', o1', c1', e', d1⟩ := ints_n HI6 hsl (by omega)
          injection e' with e1 _ e3
          injection e1 with e1
          injection e1 with e1 e2 _
          subst e1 e2 e3
          have D1 := Lib.hid d1
          have D2 := Lib.hid d2
          clear d1 d2 HI6
          have a0 : wrap64 ((a : Int) + (m : Int)) = (a : Int) + m := by unfold wrap64; omega
          have a1 : (a : Int) + m ≤ 30 := by omega
          go_wp2_with (go_at_call 17; refine (cctx_count HC6.out).mono ?_; rintro r w8 ⟨rfl, rfl⟩)
          go_loopw [13] (fun i wr => ∃ k : Nat, k ≤ 30 ∧ i = .int .i64 k ∧ ∃ q, wr = w6.drewN q) (fun i _ => 30 - (intOf i).toNat)
          case atStart => exact ⟨0, Nat.zero_le _, rfl, 0, rfl⟩
          case round =>
            obtain ⟨i, hi, rfl, q, rfl⟩ := hrel
            by_cases hlt : i < 30
            · have e2 := D2.out i hlt
              have e1 := D1.out i hlt
              rw [hzv.out i (by omega) (by omega)] at e2
              have i0 : (0 : Int) ≤ (i : Int) := by omega
              have i1 : (i : Int) < 30 := by omega
              by_cases h1 : a ≤ i
              · by_cases h2 : i < a + m
                · rw [if_pos ⟨h1, h2⟩] at e2
                  have t1 : (a : Int) ≤ (i : Int) := by omega
                  have t2 : (i : Int) < (a : Int) + m := by omega
                  generalize s.l.getD i 0 = y at *
                  go_wp2
                  go_quiet (fail)
                  go_wp2
                  go_roundw
                  case rel => exact ⟨i + 1, by omega, by go_num, _, rfl⟩
                  case measure => simp [intOf]; omega
                · rw [if_neg (by omega)] at e2
                  have t1 : (a : Int) ≤ (i : Int) := by omega
                  have t2 : ¬ (i : Int) < (a : Int) + m := by omega
                  generalize s.l.getD i 0 = y at *
                  go_wp2
                  go_quiet (fail)
                  go_wp2
                  go_roundw
                  case rel => exact ⟨i + 1, by omega, by go_num, _, rfl⟩
                  case measure => simp [intOf]; omega
              · rw [if_neg (by omega)] at e2
                have t1 : ¬ (a : Int) ≤ (i : Int) := by omega
                generalize s.l.getD i 0 = y at *
                go_wp2
                go_quiet (fail)
                go_wp2
                go_roundw
                case rel => exact ⟨i + 1, by omega, by go_num, _, rfl⟩
                case measure => simp [intOf]; omega
            · obtain rfl : i = 30 := by omega
              go_wp2
              go_ret
              exact ⟨rfl, (HC6.out.drewN _).bel⟩
        · have hr := reset_not (s := s) (a := a) (m := m) (by omega)
          refine (cctx_reset HC.out a m (by omega) (by omega)).mono ?_
          rw [hr]
          rintro r w5 ⟨rfl, hC, hO5⟩
          have HC5 := Lib.hid hC
          have HI5 := Lib.hid (show IntsIn w5 (.slice (some ⟨g1, o1, none⟩) 30 c1) s.l from ints_onl HI1.out hO5 HFAR.out)
          clear hC hO5 HI1 HC hr
          go_wp2_with fail
          refine (cctx_all HC5.out).mono ?_
          rintro r w6 ⟨v2, rfl, hO, hC, hb⟩
          obtain ⟨g2, o2, c2, rfl, d2⟩ := ints_n (IntsIn.of_own hO rfl) hsl (by omega)
          have HI6 := HI5.out.below hb
          have HC6 := Lib.hid hC
          clear hO hC hb HI5 HC5
          obtain ⟨g1', o1', c1', e', d1⟩ := ints_n HI6 hsl (by omega)
          injection e' with e1 _ e3
          injection e1 with e1
          injection e1 with e1 e2 _
          subst e1 e2 e3
          have D1 := Lib.hid d1
          have D2 := Lib.hid d2
          clear d1 d2 HI6
          have a0 : wrap64 ((a : Int) + (m : Int)) = (a : Int) + m := by unfold wrap64; omega
          have a1 : ¬ (a : Int) + m ≤ 30 := by omega
          go_wp2_with (go_at_call 17; refine (cctx_count HC6.out).mono ?_; rintro r w8 ⟨rfl, rfl⟩)
          go_loopw [13] (fun i wr => ∃ k : Nat, k ≤ 30 ∧ i = .int .i64 k ∧ ∃ q, wr = w6.drewN q) (fun i _ => 30 - (intOf i).toNat)
          case atStart => exact ⟨0, Nat.zero_le _, rfl, 0, rfl⟩
          case round =>
            obtain ⟨i, hi, rfl, q, rfl⟩ := hrel
            by_cases hlt : i < 30
            · have e2 := D2.out i hlt
              have e1 := D1.out i hlt
              have i0 : (0 : Int) ≤ (i : Int) := by omega
              have i1 : (i : Int) < 30 := by omega
              generalize s.l.getD i 0 = y at *
              go_wp2
              go_quiet (fail)
              go_wp2
              go_roundw
              case rel => exact ⟨i + 1, by omega, by go_num, _, rfl⟩
              case measure => simp [intOf]; omega
            · obtain rfl : i = 30 := by omega
              go_wp2
              go_ret
              exact ⟨rfl, (HC6.out.drewN _).bel⟩
    · have b1 : ¬ (k : Int) < (l.length : Int) := by omega
      clear hC hlt hk hk60 hll hsc
      go_wp2_with fail
      refine (cctx_all HC.out).mono ?_
      rintro r w4 ⟨v1, rfl, hO, hC, -⟩
      obtain ⟨g1, o1, c1, rfl, d1⟩ := ints_n (IntsIn.of_own hO rfl) hsl (by omega)
      have hgo := hO.lt g1 rfl
      have hI1 := IntsIn.of_own hO rfl
      have HFAR := Lib.hid (show ¬ memS ma la g1 from by have h1 := HC.out.at_.m.lt; have h2 := HC.out.at_.d.lt; unfold memS; omega)
      clear HC hO d1 hgo
      have HC := Lib.hid hC
      have HI1 := Lib.hid hI1
      clear hC hI1
      go_wp2_with fail
      refine (cctx_count HC.out).mono ?_
      rintro r w4 ⟨rfl, rfl⟩
      go_wp2_with fail
      rw [HEA.out, HEM.out]
      clear HEA HEM
      by_cases hfit : a + m ≤ 30
      · have hr := reset_fits (s := s) (a := a) (m := m) (by omega)
        have hsz : (zeroed s.l a m).length = 30 := by rw [zeroed_len _ _ _ (by omega)]; exact hsl
        have hzv := Lib.hid (zeroed_val s.l a m)
        refine (cctx_reset HC.out a m (by omega) (by omega)).mono ?_
        rw [hr]
        rintro r w5 ⟨rfl, hC, hO5⟩
        have HC5 := Lib.hid hC
        have HI5 := Lib.hid (show IntsIn w5 (.slice (some ⟨g1, o1, none⟩) 30 c1) s.l from ints_onl HI1.out hO5 HFAR.out)
        clear hC hO5 HI1 HC hr
        go_wp2_with fail
        refine (cctx_all HC5.out).mono ?_
        rintro r w6 ⟨v2, rfl, hO, hC, hb⟩
        obtain ⟨g2, o2, c2, rfl, d2⟩ := ints_n (IntsIn.of_own hO rfl) hsz (by omega)
        have HI6 := HI5.out.below hb
        have HC6 := Lib.hid hC
        clear hO hC hb HI5 HC5
        obtain ⟨g1', o1', c1', e', d1⟩ := ints_n HI6 hsl (by omega)
        injection e' with e1 _ e3
        injection e1 with e1
        injection e1 with e1 e2 _
        subst e1 e2 e3
        have D1 := Lib.hid d1
        have D2 := Lib.hid d2
        clear d1 d2 HI6
        have a0 : wrap64 ((a : Int) + (m : Int)) = (a : Int) + m := by unfold wrap64; omega
        have a1 : (a : Int) + m ≤ 30 := by omega
        go_wp2_with (go_at_call 17; refine (cctx_count HC6.out).mono ?_; rintro r w8 ⟨rfl, rfl⟩)
        go_loopw [13] (fun i wr => ∃ k : Nat, k ≤ 30 ∧ i = .int .i64 k ∧ ∃ q, wr = w6.drewN q) (fun i _ => 30 - (intOf i).toNat)
        case atStart => exact ⟨0, Nat.zero_le _, rfl, 0, rfl⟩
        case round =>
          obtain ⟨i, hi, rfl, q, rfl⟩ := hrel
          by_cases hlt : i < 30
          · have e2 := D2.out i hlt
            have e1 := D1.out i hlt
            rw [hzv.out i (by omega) (by omega)] at e2
            have i0 : (0 : Int) ≤ (i : Int) := by omega
            have i1 : (i : Int) < 30 := by omega
            by_cases h1 : a ≤ i
            · by_cases h2 : i < a + m
              · rw [if_pos ⟨h1, h2⟩] at e2
                have t1 : (a : Int) ≤ (i : Int) := by omega
                have t2 : (i : Int) < (a : Int) + m := by omega
                generalize s.l.getD i 0 = y at *
                go_wp2
                go_quiet (fail)
                go_wp2
                go_roundw
                case rel => exact ⟨i + 1, by omega, by go_num, _, rfl⟩
                case measure => simp [intOf]; omega
              · rw [if_neg (by omega)] at e2
                have t1 : (a : Int) ≤ (i : Int) := by omega
                have t2 : ¬ (i : Int) < (a : Int) + m := by omega
                generalize s.l.getD i 0 = y at *
                go_wp2
                go_quiet (fail)
                go_wp2
                go_roundw
                case rel => exact ⟨i + 1, by omega, by go_num, _, rfl⟩
                case measure => simp [intOf]; omega
            · rw [if_neg (by omega)] at e2
              have t1 : ¬ (a : Int) ≤ (i : Int) := by omega
              generalize s.l.getD i 0 = y at *
              go_wp2
              go_quiet (fail)
              go_wp2
              go_roundw
              case rel => exact ⟨i + 1, by omega, by go_num, _, rfl⟩
              case measure => simp [intOf]; omega
          · obtain rfl : i = 30 := by omega
            go_wp2
            go_ret
            exact ⟨rfl, (HC6.out.drewN _).bel⟩
      · have hr := reset_not (s := s) (a := a) (m := m) (by omega)
        refine (cctx_reset HC.out a m (by omega) (by omega)).mono ?_
        rw [hr]
        rintro r w5 ⟨rfl, hC, hO5⟩
        have HC5 := Lib.hid hC
        have HI5 := Lib.hid (show IntsIn w5 (.slice (some ⟨g1, o1, none⟩) 30 c1) s.l from ints_onl HI1.out hO5 HFAR.out)
        clear hC hO5 HI1 HC hr
        go_wp2_with fail
        refine (cctx_all HC5.out).mono ?_
        rintro r w6 ⟨v2, rfl, hO, hC, hb⟩
        obtain ⟨g2, o2, c2, rfl, d2⟩ := ints_n (IntsIn.of_own hO rfl) hsl (by omega)
        have HI6 := HI5.out.below hb
        have HC6 := Lib.hid hC
        clear hO hC hb HI5 HC5
        obtain ⟨g1', o1', c1', e', d1⟩ := ints_n HI6 hsl (by omega)
        injection e' with e1 _ e3
        injection e1 with e1
        injection e1 with e1 e2 _
        subst e1 e2 e3
        have D1 := Lib.hid d1
        have D2 := Lib.hid d2
        clear d1 d2 HI6
        have a0 : wrap64 ((a : Int) + (m : Int)) = (a : Int) + m := by unfold wrap64; omega
        have a1 : ¬ (a : Int) + m ≤ 30 := by omega
        go_wp2_with (go_at_call 17; refine (cctx_count HC6.out).mono ?_; rintro r w8 ⟨rfl, rfl⟩)
        go_loopw [13] (fun i wr => ∃ k : Nat, k ≤ 30 ∧ i = .int .i64 k ∧ ∃ q, wr = w6.drewN q) (fun i _ => 30 - (intOf i).toNat)
        case atStart => exact ⟨0, Nat.zero_le _, rfl, 0, rfl⟩
        case round =>
          obtain ⟨i, hi, rfl, q, rfl⟩ := hrel
          by_cases hlt : i < 30
          · have e2 := D2.out i hlt
            have e1 := D1.out i hlt
            have i0 : (0 : Int) ≤ (i : Int) := by omega
            have i1 : (i : Int) < 30 := by omega
            generalize s.l.getD i 0 = y at *
            go_wp2
            go_quiet (fail)
            go_wp2
            go_roundw
            case rel => exact ⟨i + 1, by omega, by go_num, _, rfl⟩
            case measure => simp [intOf]; omega
          · obtain rfl : i = 30 := by omega
            go_wp2
            go_ret
            exact ⟨rfl, (HC6.out.drewN _).bel⟩
theorem cellResets_law (A : Option Addr) (len cap : Nat) (l : List St) (f n : Int) (W : World) (hs : StsIn W (.slice A len cap) l) (hlc : len ≤ cap) (hcap : cap ≤ maxLen) (hL : laidC W) :
    Calls Tryd.prog 9 #[.slice A len cap, .int .i64 f, .int .i64 n] W fun r w' => r = .returned (.bool true) ∧ Below W.heap.size W w' := law_cellResets A len cap l f n (err_of_laid hL) hs hlc hcap
end Go.Proofs.YtkamcjejongmbaaDoor
