/- RingDrops: what is dropped ahead of its last access does nothing: the walk. -/
import Derived.Test.YtelfclcljdjohaaDoorRingX
import Derived.Deep.CutBlock
namespace Go.Proofs.YtelfclcljdjohaaDoor
open Go.RowKit

theorem ctx_stepR' {W w : World} {b mb lb : Nat} {X : Nat → Prop} {s : RS} (h : Ctx W w b mb lb X s) :
    Calls Tryd.prog 18 #[.pointer (some ⟨b, 0, none⟩), .bool false] w fun e w' => ∃ A n c d er, e = .returned (.tuple #[.slice A n c, .bool d, .int .i64 er]) ∧ Ctx W w' b mb lb X s.stepR.1 ∧ IntsIn w' (.slice A n c) s.stepR.2.1 :=
  (ctx_stepR h).mono fun e w' ⟨v, he, hc, hi, _⟩ => by
    obtain ⟨A, c, rfl⟩ := hi.form
    exact ⟨A, _, c, _, _, he, hc.1, hi⟩
theorem mod_u (a : Int) (n : Nat) (h0 : 0 < n) (h9 : n ≤ 9) : ∃ q : Nat, q < n ∧ wrap64 ((IntKind.u64.wrap a).tmod (n : Int)) = (q : Int) := by
  have h1 : (0 : Int) ≤ a % 18446744073709551616 := by omega
  have h2 := Int.emod_nonneg (a % 18446744073709551616) (show (n : Int) ≠ 0 by omega)
  have h3 := Int.emod_lt_of_pos (a % 18446744073709551616) (show (0 : Int) < (n : Int) by omega)
  rw [IntKind.wrap_u64, Int.tmod_eq_emod_of_nonneg h1]
  generalize a % 18446744073709551616 % (n : Int) = z at *
  exact ⟨z.toNat, by omega, by unfold wrap64; omega⟩
set_option maxRecDepth 100000 in
set_option maxHeartbeats 6400000 in
theorem ringDrops_law (n0 a0 b0 : Int) (w : World) :
    Calls Tryd.prog 4 #[.int .i64 n0, .int .i64 a0, .int .i64 b0] w fun e w' => e = .returned (.bool true) ∧ Below w.heap.size w w' := by
  go_enter Tryd.func4, Tryd.ntmps4
  go_wp2_with fail
  refine (lives_any w).mono ?_
  rintro e w1 ⟨rfl, hB1⟩
  go_wp2_with fail
  refine (ctx_new 2 n0 hB1).mono ?_
  rintro e w2 ⟨b, mb, lb, rfl, hB2, hC⟩
  have hs1 := hB1.size
  have hs2 := hB2.size
  have hW := wordsOf_bd n0
  rw [show placesOf 2 = 2 by decide] at hC
  have HC := Lib.hid hC
  have hx := Nat.le_trans hs1 hs2
  clear hB1 hB2 hC hs1 hs2
  generalize wordsOf n0 = n at *
  obtain ⟨hn1, hn6⟩ := hW
  have HCW := Lib.hid (ctx_words HC.out)
  rw [show (RS.new 2 n).W = n from rfl] at HCW
  go_wp2_with fail
  refine HCW.out.mono ?_
  rintro e w3 ⟨rfl, rfl⟩
  have hmk := fun W => run_make_row' (P := Tryd.prog) 32 3 (.int .i64 0) 8 Tryd.underlying32 infoInt rfl .i64 .i64 n (by omega) (by omega) W
  have hx2 := Nat.le_trans hx (show w2.heap.size ≤ w2.heap.size from Nat.le_refl _)
  clear HCW
  go_wp2
  have HC1 := Lib.hid ((HC.out.more w2.heap.size (w2.alloc (.cells (madeCells #[.int .i64 0] n) 3)) (below_alloc (Nat.le_refl _) _) (Nat.le_refl _) (by simp)).less (Y := fun k => k = w2.heap.size) (fun k e => .inr e))
  have HB0 := Lib.hid (show Blk (w2.alloc (.cells (madeCells #[.int .i64 0] n) 3)) w2.heap.size 3 (nums (fill n 0 9 0)).toArray by have := Blk.new w2 3 (madeCells #[.int .i64 0] n); rw [nums_zeros] at this ⊢; simpa [fill] using this)
  clear HC hx2
  generalize w2.alloc (.cells (madeCells #[.int .i64 0] n) 3) = wA at *
  generalize w2.heap.size = x at *
  go_loopw [10] (fun i wx => ∃ k : Nat, k ≤ n ∧ i = .int .i64 k ∧ Blk wx x 3 (nums (fill n k 9 0)).toArray ∧ Ctx w wx b mb lb (fun k => k = x) (RS.new 2 n)) (fun i _ => n - (intOf i).toNat)
  case atStart => exact ⟨0, Nat.zero_le _, rfl, HB0.out, HC1.out⟩
  case round =>
    clear HB0 HC1
    obtain ⟨k, hk, rfl, hB, hC⟩ := hrel
    have HC := Lib.hid hC
    clear hC
    by_cases hlt : k < n
    · have ck : wr.cell? ⟨x, k, none⟩ = some (.int .i64 0) := by
        rw [hB.cell k, List.getElem?_toArray, nums_get _ _ (by rw [fill_len _ _ _ _ hk]; exact hlt)]
        simp [fill]
      have fk := hB.fr k
      have hBn := hB.set k (.int .i64 9)
      rw [nums_set, fill_set _ _ _ _ hlt] at hBn
      have HBN := Lib.hid hBn
      have HCN := Lib.hid (HC.out.set x k (.int .i64 9) rfl hx)
      have b1 : (k : Int) < (n : Int) := by omega
      have b0 : (0 : Int) ≤ (k : Int) := by omega
      clear hB hBn HC
      go_wp2
      go_round
      case rel => exact ⟨k + 1, by omega, by go_num, HBN.out, HCN.out⟩
      case measure => simp [intOf]; omega
    · obtain rfl : k = n := by omega
      rw [fill_all] at hB
      have HB := Lib.hid hB
      have HP := Lib.hid (ctx_push (HC.out.below (below_alloc (Nat.le_refl _) (.cells (madeCells #[.int .i64 0] k) 3))) rfl (ints_made wr k) (by simp [RS.new]) (rep_word (by unfold okWord; omega)))
      have HBA := Lib.hid (hB.below (below_alloc (Nat.le_refl _) (.cells (madeCells #[.int .i64 0] k) 3)) hB.lt)
      clear hB
      go_wp2_with fail
      refine HP.out.mono ?_
      rintro e w4 ⟨rfl, hC4, hK4⟩
      have HC4 := Lib.hid hC4
      have HB4 := Lib.hid (HBA.out.of (hK4 x rfl))
      have HD := Lib.hid (da_start k hn1 hn6)
      clear hC4 hK4 HP HC HB HBA
      generalize (RS.new 2 k).pushed (List.replicate k 0) = s0 at *
      go_wp2_with fail
      go_loopw [11] (fun i wx => ∃ (j : Nat) (s : RS), j ≤ k + 3 ∧ i = .int .i64 j ∧ Blk wx x 3 (nums (List.replicate k 9)).toArray ∧ Ctx w wx b mb lb (fun k => k = x) s ∧ (j < k + 3 ∧ DA s k j ∨ j = k + 3 ∧ DM s k 1 ∧ s.ia = 0 ∧ s.oa = 0)) (fun i _ => k + 3 - (intOf i).toNat)
      case atStart => exact ⟨0, s0, Nat.zero_le _, rfl, HB4.out, HC4.out, .inl ⟨by omega, HD.out⟩⟩
      case round =>
        clear HB4 HC4 HD
        obtain ⟨j, s, hj, rfl, hB, hC, hD⟩ := hrel
        have HB := Lib.hid hB
        have HC := Lib.hid hC
        clear hB hC
        by_cases hlt : j < k + 3
        · have HS := Lib.hid (ctx_stepW HC.out)
          have HN := Lib.hid (da_next (hD.resolve_right (fun e => by omega)).2)
          have b1 : (j : Int) < (k : Int) + 3 := by omega
          clear hD HC
          go_wp2_with fail
          refine HS.out.mono ?_
          rintro e w5 ⟨rfl, hC, hK⟩
          have HC := Lib.hid hC
          have HB5 := Lib.hid (HB.out.of (hK x rfl))
          clear hC hK HS HB
          go_wp2
          go_roundw
          case rel => exact ⟨j + 1, _, by omega, by go_num, HB5.out, HC.out, HN.out⟩
          case measure => simp [intOf]; omega
        · obtain rfl : j = k + 3 := by omega
          have hD1 := (hD.resolve_left (fun e => by omega)).2
          have HP := Lib.hid (ctx_push HC.out hD1.2.1 (ints_blk (n := k) HB.out (by simp)) (by rw [hD1.1.w]; simp) (rep_word (by unfold okWord; omega)))
          have HD := Lib.hid (db_start hD1.1 hD1.2.2)
          have b1 : ¬ ((k + 3 : Nat) : Int) < (k : Int) + 3 := by omega
          clear hD hD1 HC HB
          go_wp2_with fail
          refine HP.out.mono ?_
          rintro e w5 ⟨rfl, hC, hK⟩
          have HC := Lib.hid hC
          clear hC hK HP
          generalize s.pushed (List.replicate k 9) = s1 at *
          obtain ⟨qa, hqa, hqe⟩ := mod_u a0 (k + 3) (by omega) (by omega)
          obtain ⟨qb, hqb, hqf⟩ := mod_u b0 (k + 3) (by omega) (by omega)
          rw [show ((k + 3 : Nat) : Int) = (k : Int) + 3 by omega] at hqe hqf
          have hne0 : ¬ (k : Int) + 3 = 0 := by omega
          have hne1 : IntKind.u64.wrap ((k : Int) + 3) = (k : Int) + 3 := by rw [IntKind.wrap_u64]; omega
          go_wp2_with fail
          go_loopw [12] (fun i wx => ∃ (j : Nat) (s : RS), j ≤ qa ∧ i = .int .i64 j ∧ Ctx w wx b mb lb (fun k => k = x) s ∧ DB s k j) (fun i _ => qa - (intOf i).toNat)
          case atStart => exact ⟨0, s1, Nat.zero_le _, rfl, HC.out, HD.out⟩
          case round =>
            clear HC HD
            obtain ⟨j, s, hj, rfl, hC, hD⟩ := hrel
            have HC := Lib.hid hC
            have HD := Lib.hid hD
            clear hC hD
            by_cases hlt : j < qa
            · have HS := Lib.hid (ctx_stepW HC.out)
              have HN := Lib.hid (db_next HD.out (by omega))
              have b1 : (j : Int) < (qa : Int) := by omega
              clear HD HC
              go_wp2_with fail
              refine HS.out.mono ?_
              rintro e w5 ⟨rfl, hC, hK⟩
              have HC := Lib.hid hC
              clear hC hK HS
              go_wp2
              go_roundw
              case rel => exact ⟨j + 1, _, by omega, by go_num, HC.out, HN.out⟩
              case measure => simp [intOf]; omega
            · obtain rfl : j = qa := by omega
              have b1 : ¬ (j : Int) < (j : Int) := by omega
              have HP := Lib.hid (ctx_drop HC.out true)
              have hia := db_ia HD.out
              simp only [if_true, decide_eq_false hia, Bool.not_false] at HP
              have HM := Lib.hid (And.intro (dm_dropped HD.out.m true) HD.out.oa)
              clear HC HD hia
              go_wp2_with fail
              refine HP.out.mono ?_
              rintro e w5 ⟨rfl, hC, hK⟩
              have HC := Lib.hid hC
              clear hC hK HP
              have HP := Lib.hid (ctx_pop HC.out HM.out.2)
              have HD := Lib.hid (dc_start HM.out.1 rfl)
              clear HC HM
              go_wp2_with fail
              refine HP.out.mono ?_
              rintro e w6 ⟨rfl, hC, hK⟩
              have HC := Lib.hid hC
              clear hC hK HP
              generalize (s.dropped true).popped = s1 at *
              go_wp2_with fail
              go_loopw [14] (fun i wx => ∃ (j : Nat) (s : RS), j ≤ qb ∧ i = .int .i64 j ∧ Ctx w wx b mb lb (fun k => k = x) s ∧ DC s k j) (fun i _ => qb - (intOf i).toNat)
              case atStart => exact ⟨0, s1, Nat.zero_le _, rfl, HC.out, HD.out⟩
              case round =>
                clear HC HD
                obtain ⟨j, s, hj, rfl, hC, hD⟩ := hrel
                have HC := Lib.hid hC
                have HD := Lib.hid hD
                clear hC hD
                by_cases hlt : j < qb
                · have HS := Lib.hid (ctx_stepR' HC.out)
                  have HN := Lib.hid ((dc_next HD.out hn1).resolve_right (fun e => by omega))
                  have b1 : (j : Int) < (qb : Int) := by omega
                  clear HD HC
                  go_wp2_with fail
                  refine HS.out.mono ?_
                  rintro e w5 ⟨A5, l5, c5, d5, er5, rfl, hC, hi⟩
                  have HC := Lib.hid hC
                  clear hC hi HS
                  go_wp2
                  go_roundw
                  case rel => exact ⟨j + 1, _, by omega, by go_num, HC.out, HN.out.2⟩
                  case measure => simp [intOf]; omega
                · obtain rfl : j = qb := by omega
                  have b1 : ¬ (j : Int) < (j : Int) := by omega
                  have HP := Lib.hid (ctx_drop HC.out false)
                  have hoa := dc_oa HD.out
                  simp only [Bool.false_eq_true, if_false, decide_eq_false hoa, Bool.not_false] at HP
                  have HM := Lib.hid (And.intro (dm_dropped HD.out.m false) HD.out.ia)
                  clear HC HD hoa
                  go_wp2_with fail
                  refine HP.out.mono ?_
                  rintro e w5 ⟨rfl, hC, hK⟩
                  have HC := Lib.hid hC
                  clear hC hK HP
                  have HCO := Lib.hid (show Calls Tryd.prog 14 #[.pointer (some ⟨b, 0, none⟩)] w5 fun e w' => e = .returned (.int .i64 1) ∧ Below w5.heap.size w5 w' from by
                    have := ctx_count HC.out
                    rw [HM.out.1.p, HM.out.1.t, HM.out.1.h] at this
                    exact this)
                  go_wp2_with fail
                  refine HCO.out.mono ?_
                  rintro e w6 ⟨rfl, hb⟩
                  have HC6 := Lib.hid (HC.out.below hb)
                  clear hb HC HCO
                  have HP := Lib.hid (ctx_pop HC6.out rfl)
                  have HD := Lib.hid (dc_start HM.out.1 HM.out.2)
                  clear HC6 HM
                  go_wp2_with fail
                  refine HP.out.mono ?_
                  rintro e w7 ⟨rfl, hC, hK⟩
                  have HC := Lib.hid hC
                  clear hC hK HP
                  generalize (s.dropped false).popped = s1 at *
                  go_wp2_with fail
                  go_loopw [16, 17, 18, 19, 20] (fun v i _ _ _ wx => ∃ (j : Nat) (s : RS) (A : Option Addr) (l c : Nat), j ≤ k + 3 ∧ i = .int .i64 j ∧ v = .slice A l c ∧ Ctx w wx b mb lb (fun k => k = x) s ∧ (j < k + 3 ∧ DC s k j ∨ j = k + 3 ∧ IntsIn wx (.slice A l c) (List.replicate k 0) ∧ dist s.P s.tl s.hd = 0)) (fun _ i _ _ _ _ => k + 3 - (intOf i).toNat)
                  case atStart => exact ⟨0, s1, none, 0, 0, Nat.zero_le _, rfl, rfl, HC.out, .inl ⟨by omega, HD.out⟩⟩
                  case round =>
                    clear HC HD
                    obtain ⟨j, s, A, l, c, hj, rfl, rfl, hC, hD⟩ := hrel
                    have HC := Lib.hid hC
                    have HD := Lib.hid hD
                    clear hC hD
                    by_cases hlt : j < k + 3
                    · have HS := Lib.hid (ctx_stepR' HC.out)
                      have HN := Lib.hid (dc_next (HD.out.resolve_right (fun e => by omega)).2 hn1)
                      have b1 : (j : Int) < (k : Int) + 3 := by omega
                      clear HD HC
                      go_wp2_with fail
                      refine HS.out.mono ?_
                      rintro e w5 ⟨A5, l5, c5, d5, er5, rfl, hC, hi⟩
                      have HC := Lib.hid hC
                      have HX := Lib.hid (show (j + 1 < k + 3 ∧ DC s.stepR.1 k (j + 1) ∨ j + 1 = k + 3 ∧ IntsIn w5 (.slice A5 l5 c5) (List.replicate k 0) ∧ dist s.stepR.1.P s.stepR.1.tl s.stepR.1.hd = 0) from
                        HN.out.imp (fun e => e) (fun e => ⟨e.1, by have := hi; rw [e.2.1] at this; exact this, e.2.2⟩))
                      clear hC hi HS HN
                      go_wp2
                      go_roundw
                      case rel => exact ⟨j + 1, _, A5, l5, c5, by omega, by go_num, rfl, HC.out, HX.out⟩
                      case measure => simp [intOf]; omega
                    · obtain rfl : j = k + 3 := by omega
                      have hD1 := (HD.out.resolve_left (fun e => by omega)).2
                      have b1 : ¬ ((k + 3 : Nat) : Int) < (k : Int) + 3 := by omega
                      have HCO := Lib.hid (show Calls Tryd.prog 14 #[.pointer (some ⟨b, 0, none⟩)] wr fun e w' => e = .returned (.int .i64 0) ∧ Below wr.heap.size wr w' from by
                        have := ctx_count HC.out
                        rw [hD1.2] at this
                        exact this)
                      have HI := Lib.hid hD1.1
                      clear hD1 HD
                      go_wp2_with fail
                      refine HCO.out.mono ?_
                      rintro e w6 ⟨rfl, hb⟩
                      have HB6 := Lib.hid (HC.out.below hb).bel
                      have HSA := Lib.hid (same_yes ((HI.out.below hb).below (below_alloc (Nat.le_refl _) (.cells (madeCells #[.int .i64 0] k) 3))) (ints_made w6 k) (by simp; omega))
                      clear hb HC HCO HI
                      go_wp2_with fail
                      refine HSA.out.mono ?_
                      rintro e w7 ⟨rfl, q, rfl⟩
                      go_wp2
                      go_ret
                      exact ⟨rfl, below_drewN (HB6.out.trans (below_alloc (Nat.le_trans (HB6.out.size) (Nat.le_refl _)) _)) q⟩
end Go.Proofs.YtelfclcljdjohaaDoor
