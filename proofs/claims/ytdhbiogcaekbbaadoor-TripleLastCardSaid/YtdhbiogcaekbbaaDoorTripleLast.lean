/- TripleLast: the walk. -/
import Derived.Test.YtdhbiogcaekbbaaDoorTripleLastP
namespace Go.Proofs.YtdhbiogcaekbbaaDoor
open Go.RowKit

set_option maxRecDepth 100000 in
set_option maxHeartbeats 3200000 in
theorem tripleLast_law (n0 : Int) (A : Option Addr) (len cap bs off : Nat) (V : Nat → Value) (L : Nat → List Int) (w : World) (hS : ListsIn w A len bs off V L) (_ : len ≤ cap) (_ : cap ≤ maxLen) :
    Calls Tryd.prog 5 #[.int .i64 n0, .slice A len cap] w fun e w' => e = .returned (.bool true) ∧ Below w.heap.size w w' := by
  go_enter Tryd.func5, Tryd.ntmps5
  go_wp2_with fail
  refine (lives_any w).mono ?_
  rintro e w1 ⟨rfl, hB1⟩
  go_wp2_with fail
  refine (ctx_new n0 hB1).mono ?_
  rintro e w2 ⟨b, mb, lb, rfl, hB2, g1, g2, g3, l1, l2, l3, hC⟩
  have hc := hC b w2 (Below.refl _ _) l1
  rw [newx_eq] at hc
  have hwn := wordsOf_bd n0
  have HC := Lib.hid hc
  have HE := Lib.hid (show (TS.newx (wordsOf n0) b).W = wordsOf n0 ∧ (TS.newx (wordsOf n0) b).ia = 0 ∧ (TS.newx (wordsOf n0) b).oa = 0 ∧ Perm (TS.newx (wordsOf n0) b) from ⟨rfl, rfl, rfl, perm_newx _ _⟩)
  generalize TS.newx (wordsOf n0) b = s at *
  generalize wordsOf n0 = n at *
  have HS := Lib.hid hS
  obtain ⟨hn1, hn6⟩ := hwn
  clear hB1 hB2 g1 g2 g3 l1 l2 l3 hC hc hS
  go_wp2_with fail
  refine (ctx_words HC.out).mono ?_
  rintro e w3 ⟨rfl, rfl⟩
  rw [HE.out.1]
  go_wp2
  go_loopw [7] (fun i wr => ∃ (k : Nat) (s : TS), k ≤ len ∧ k ≤ 20 ∧ i = .int .i64 k ∧ Ctx w wr b mb lb s ∧ Perm s ∧ s.ia = 0 ∧ s.oa = 0 ∧ s.W = n) (fun i _ => len - (intOf i).toNat)
  case atStart => exact ⟨0, s, Nat.zero_le _, by omega, rfl, HC.out, HE.out.2.2.2, HE.out.2.1, HE.out.2.2.1, HE.out.1⟩
  case round =>
    clear HC HE s
    obtain ⟨k, s, hk, hk3, rfl, hC, hp, hia, hoa, hWn⟩ := hrel
    have HC := Lib.hid hC
    have HP := Lib.hid (And.intro hp (And.intro hia (And.intro hoa hWn)))
    clear hC hp hia hoa hWn
    by_cases hlt : k < len ∧ k < 20
    · obtain ⟨hlt, hlt3⟩ := hlt
      obtain rfl : A = some ⟨bs, off, none⟩ := HS.out.at_.resolve_right (by omega)
      have b1 : (k : Int) < (len : Int) := by omega
      have b2 : (k : Int) < 20 := by omega
      have b0 : (0 : Int) ≤ (k : Int) := by omega
      have hmk := fun W => run_make_row' (P := Tryd.prog) 38 3 (.int .i64 0) 8 Tryd.underlying38 infoInt rfl .i64 .i64 n (by omega) (by omega) W
      obtain ⟨wo, rfl⟩ : ∃ wo : World, wo = wr := ⟨_, rfl⟩
      go_upto_block 2 with (fail)
      go_cut [8, 9] (fun v _ wx => ∃ (g : Nat) (own : List Int), v = .slice (some ⟨g, 0, none⟩) n n ∧ wo.heap.size ≤ g ∧ own.length = n ∧ (∀ x ∈ own, okWord x) ∧ IntsIn wx v own ∧ Below wo.heap.size wo wx)
      case first =>
        go_wp2
        go_loopw [9] (fun i wx => ∃ (j : Nat) (own : List Int), j ≤ n ∧ i = .int .i64 j ∧ own.length = n ∧ (∀ x ∈ own, okWord x) ∧ Blk wx wo.heap.size 3 (nums own).toArray ∧ Only (fun t => t = wo.heap.size) (wo.alloc (.cells (madeCells #[.int .i64 0] n) 3)) wx) (fun i _ => n - (intOf i).toNat)
        case atStart => exact ⟨0, List.replicate n 0, Nat.zero_le _, rfl, by simp, fun x hx => by have := (List.mem_replicate.1 hx).2; subst this; unfold okWord; omega, by have := Blk.new wo 3 (madeCells #[.int .i64 0] n); rw [nums_zeros] at this ⊢; exact this, onl_refl _ _⟩
        case round =>
          obtain ⟨j, own, hj, rfl, hl, hok, hB, hO⟩ := hrel
          have hBB : Below wo.heap.size wo wr := below_onl (below_alloc (Nat.le_refl _) (.cells (madeCells #[.int .i64 0] n) 3)) hO (by simp) (fun k e => by omega)
          have hSr := HS.out.below (HC.out.bel.trans (hBB.mono HC.out.bel.size))
          have cv := hSr.c0 k hlt
          obtain ⟨A', c', hv, hlc, hcells⟩ := hSr.ci k hlt
          rw [hv] at cv
          by_cases hjn : j < n
          · by_cases hjl : j < (L k).length
            · obtain ⟨g, o, rfl, hcell⟩ := hcells (by omega)
              have cj := hcell j hjl
              have hy : ∃ y, (L k)[j] = y := ⟨_, rfl⟩
              obtain ⟨y, hy⟩ := hy
              rw [hy] at cj
              obtain ⟨z, hz⟩ : ∃ z, z = wrap64 ((IntKind.u64.wrap y).tmod 2147483648) := ⟨_, rfl⟩
              have hzok : okWord z := by
                rw [hz, IntKind.wrap_u64, Int.tmod_eq_emod_of_nonneg (by omega)]
                unfold wrap64 okWord
                omega
              have co : wr.cell? ⟨wo.heap.size, j, none⟩ = some (.int .i64 own[j]) := by
                rw [hB.cell j, List.getElem?_toArray, nums_get _ _ (by omega)]
              have fo := hB.fr j
              have hBn := hB.set j (.int .i64 z)
              rw [nums_set] at hBn
              have HBN := Lib.hid hBn
              have HON := Lib.hid (onl_set (S := fun t => t = wo.heap.size) hO (p := ⟨wo.heap.size, j, none⟩) (.inl rfl) (.int .i64 z))
              have HOKN := Lib.hid (show ∀ x ∈ own.set j z, okWord x from fun x hx => by
                rcases List.mem_or_eq_of_mem_set hx with h | h
                · exact hok x h
                · rw [h]; exact hzok)
              have HL := Lib.hid (show (own.set j z).length = n by rw [List.length_set]; exact hl)
              have HZ := Lib.hid hz
              have b3 : (j : Int) < (n : Int) := by omega
              have b4 : (j : Int) < ((L k).length : Int) := by omega
              have b5 : (0 : Int) ≤ (j : Int) := by omega
              clear hB hO hBB hSr hcells hcell hBn hok hzok hz hlc hv
              go_wp2
              rw [← HZ.out]
              go_round
              case rel => exact ⟨j + 1, own.set j z, by omega, by go_num, HL.out, HOKN.out, HBN.out, HON.out⟩
              case measure => simp [intOf]; omega
            · have HI := Lib.hid (ints_blk hB hl)
              have HBB := Lib.hid hBB
              have HOK := Lib.hid (And.intro hl hok)
              clear hB hO hBB hSr hcells hok hl hlc hv
              go_wp2
              go_meet
              exact ⟨_, own, rfl, Nat.le_refl _, HOK.out.1, HOK.out.2, HI.out, HBB.out⟩
          · have HI := Lib.hid (ints_blk hB hl)
            have HBB := Lib.hid hBB
            have HOK := Lib.hid (And.intro hl hok)
            clear hB hO hBB hSr hcells hok hl hlc hv
            go_wp2
            go_meet
            exact ⟨_, own, rfl, Nat.le_refl _, HOK.out.1, HOK.out.2, HI.out, HBB.out⟩
      case rest =>
        obtain ⟨g, own, rfl, hg, hl, hok, hI, hBB⟩ := hcut
        have hC := HC.out.below hBB
        have hlt0 := HC.out.lt
        have HGN := Lib.hid (show ∀ t, (Value.slice (some ⟨g, 0, none⟩) n n).ownBlock = some t → ¬ regS b mb lb t from fun t ht e => by
          simp [Value.ownBlock] at ht
          unfold regS at e
          omega)
        have HCW := Lib.hid (ctx_write hC hI (by rw [HP.out.2.2.2]; exact hl) hok HP.out.2.1)
        have HI := Lib.hid hI
        have HL := Lib.hid hl
        clear hC hI hl hok hBB HC hlt0 hmk hg
        go_wp2_with fail
        refine HCW.out.mono ?_
        rintro e w5 ⟨rfl, hC5, hO5⟩
        have HC5 := Lib.hid hC5
        have HI5 := Lib.hid (ints_onl HI.out hO5 HGN.out)
        have HLW := Lib.hid (lw_wrt (l := own) HP.out.1 HP.out.2.2.1)
        have HW5 := Lib.hid (show (s.wrt own).W = n from HP.out.2.2.2)
        clear hC5 hO5 HCW HI HP
        generalize s.wrt own = s5 at *
        go_wp2
        go_loopw [10] (fun i wx => ∃ (j : Nat) (s1 : TS), j ≤ n + 1 ∧ i = .int .i64 j ∧ Ctx w wx b mb lb s1 ∧ LW s1 own j ∧ s1.W = n ∧ IntsIn wx (.slice (some ⟨g, 0, none⟩) n n) own) (fun i _ => 9 - (intOf i).toNat)
        case atStart => exact ⟨0, s5, by omega, rfl, HC5.out, HLW.out, HW5.out, HI5.out⟩
        case round =>
          clear HC5 HLW HW5 HI5 s5
          obtain ⟨j, s1, hj, rfl, hC, hLW, hW1, hI⟩ := hrel
          have HC := Lib.hid hC
          have HLW := Lib.hid hLW
          have HW1 := Lib.hid hW1
          have HI := Lib.hid hI
          clear hC hLW hW1 hI
          have b3 : (j : Int) < 9 := by omega
          go_wp2_with fail
          refine (ctx_busy HC.out true).mono ?_
          rintro e w6 ⟨rfl, rfl⟩
          by_cases hia : s1.ia = 0
          · rw [show s1.busy true = false by simp [TS.busy, hia]]
            have HCT := Lib.hid (show CT s1 own from .inl (by
              rcases HLW.out.st with h | h
              · omega
              · exact ⟨h.2.2.1, h.2.2.2⟩))
            have HPP := Lib.hid (And.intro HLW.out.p (And.intro hia HLW.out.oa))
            clear HLW
            go_wp2
            go_loopw [11] (fun i wx => ∃ (t : Nat) (s2 : TS), t ≤ 2 ∧ i = .int .i64 t ∧ Ctx w wx b mb lb s2 ∧ Perm s2 ∧ s2.ia = 0 ∧ s2.oa = 0 ∧ CT s2 own ∧ s2.W = n ∧ IntsIn wx (.slice (some ⟨g, 0, none⟩) n n) own) (fun i _ => 2 - (intOf i).toNat)
            case atStart => exact ⟨0, s1, by omega, rfl, HC.out, HPP.out.1, HPP.out.2.1, HPP.out.2.2, HCT.out, HW1.out, HI.out⟩
            case round =>
              clear HC HPP HCT HW1 HI hia s1 b3
              obtain ⟨t, s2, ht, rfl, hC, hP, hia, hoa, hCT, hW2, hI⟩ := hrel
              have HC := Lib.hid hC
              have HP := Lib.hid (And.intro hP (And.intro hia (And.intro hoa hW2)))
              have HI := Lib.hid hI
              have HLR := Lib.hid (lr_rd (r := []) hP hia hoa hCT)
              clear hC hP hia hoa hCT hW2 hI
              by_cases htt : t < 2
              · have b4 : (t : Int) < 2 := by omega
                go_wp2_with fail
                refine (ctx_read HC.out).mono ?_
                rintro e w7 ⟨rfl, hC7, hO7⟩
                have HC7 := Lib.hid hC7
                have HI7 := Lib.hid (ints_onl HI.out hO7 HGN.out)
                have HW7 := Lib.hid (show s2.rd.1.W = n from (rd_x s2).2.trans HP.out.2.2.2)
                clear hC7 hO7 HC HI HP
                generalize s2.rd.1 = s7 at *
                generalize s2.rd.2 = e7 at *
                go_wp2
                go_loopw [12, 13] (fun v i wx => ∃ (j : Nat) (s3 : TS) (r : List Int), j ≤ n + 2 ∧ i = .int .i64 j ∧ Ctx w wx b mb lb s3 ∧ LR s3 own r j ∧ s3.W = n ∧ IntsIn wx v r ∧ IntsIn wx (.slice (some ⟨g, 0, none⟩) n n) own) (fun _ i _ => 9 - (intOf i).toNat)
                case atStart => exact ⟨0, s7, [], by omega, rfl, HC7.out, HLR.out, HW7.out, IntsIn.nil _, HI7.out⟩
                case round =>
                  clear HC7 HLR HW7 HI7 s7
                  obtain ⟨q, s3, r, hq, rfl, hC, hLR, hW3, hv, hI⟩ := hrel
                  have HC := Lib.hid hC
                  have HLR := Lib.hid hLR
                  have HW3 := Lib.hid hW3
                  have HI := Lib.hid hI
                  have HV := Lib.hid hv
                  obtain ⟨A3, c3, rfl⟩ := hv.form
                  clear hC hLR hW3 hI hv
                  have b5 : (q : Int) < 9 := by omega
                  go_wp2_with fail
                  refine (ctx_busy HC.out false).mono ?_
                  rintro e w8 ⟨rfl, rfl⟩
                  by_cases hoa : s3.oa = 0
                  · rw [show s3.busy false = false by simp [TS.busy, hoa]]
                    have hst : s3.mid < 4 ∧ ListAt s3 s3.oo own ∧ r = own := by
                      rcases HLR.out.st with h | h | h | h
                      · omega
                      · omega
                      · omega
                      · exact h.2
                    obtain ⟨h1, h2, rfl⟩ := hst
                    have HCT := Lib.hid (show CT s3 r from .inr ⟨h1, h2⟩)
                    have HPP := Lib.hid (And.intro HLR.out.p (And.intro HLR.out.ia hoa))
                    have hl6 : r.length ≤ 1073741824 := by rw [HL.out]; omega
                    clear HLR h1 h2
                    go_wp2_with fail
                    refine (same_yes HV.out HI.out hl6).mono ?_
                    rintro e w9 ⟨rfl, nq, rfl⟩
                    clear hl6
                    go_wp2
                    go_round
                    case rel => exact ⟨t + 1, s3, by omega, by go_num, HC.out.drewN nq, HPP.out.1, HPP.out.2.1, HPP.out.2.2, HCT.out, HW3.out, HI.out.drewN nq⟩
                    case measure => simp [intOf]; omega
                  · rw [show s3.busy false = true by simp [TS.busy]; omega]
                    have hs := lr_step HLR.out HC.out.fine (HL.out.trans HW3.out.symm) hoa
                    have hst := ctx_step HC.out false
                    have e1 : (s3.step false).2.2.2 = 0 := hs.2.1
                    have hLR4 : LR (s3.step false).1 own (s3.step false).2.1 (q + 1) := hs.2.2
                    have hqn := hs.1
                    rw [HW3.out] at hqn
                    rw [e1] at hst
                    have HW4 := Lib.hid ((step_x s3 false).2.trans HW3.out)
                    have HLR4 := Lib.hid hLR4
                    have HST := Lib.hid hst
                    clear hs hst e1 hLR4 HLR HW3 HC HV
                    generalize (s3.step false).1 = s4 at *
                    generalize (s3.step false).2.2.1 = d at *
                    generalize (s3.step false).2.1 = r4 at *
                    go_wp2_with fail
                    refine HST.out.mono ?_
                    rintro e w9 ⟨v, rfl, hC, hO, hi, -⟩
                    have HC9 := Lib.hid hC
                    have HI9 := Lib.hid (ints_onl HI.out hO HGN.out)
                    have HV9 := Lib.hid hi
                    obtain ⟨A4, c4, rfl⟩ := hi.form
                    clear hC hO hi HI HST
                    go_wp2
                    go_round
                    case rel => exact ⟨q + 1, s4, r4, by omega, by go_num, HC9.out, HLR4.out, HW4.out, HV9.out, HI9.out⟩
                    case measure => simp [intOf]; omega
              · obtain rfl : t = 2 := by omega
                clear HLR
                go_wp2
                go_round
                case rel => exact ⟨k + 1, s2, by omega, by omega, by go_num, HC.out, HP.out.1, HP.out.2.1, HP.out.2.2.1, HP.out.2.2.2⟩
                case measure => simp [intOf]; omega
          · rw [show s1.busy true = true by simp [TS.busy]; omega]
            have hs := lw_step HLW.out HC.out.fine (HL.out.trans HW1.out.symm) hia
            have hst := ctx_step HC.out true
            have e1 : (s1.step true).2.2.2 = 0 := hs.2.1
            have e2 : (s1.step true).2.1 = [] := hs.2.2.1
            have hLW4 : LW (s1.step true).1 own (j + 1) := hs.2.2.2
            have hqn := hs.1
            rw [HW1.out] at hqn
            rw [e1, e2] at hst
            have HW4 := Lib.hid ((step_x s1 true).2.trans HW1.out)
            have HLW4 := Lib.hid hLW4
            have HST := Lib.hid hst
            clear hs hst e1 e2 hLW4 HLW HW1 HC
            generalize (s1.step true).1 = s4 at *
            generalize (s1.step true).2.2.1 = d at *
            go_wp2_with fail
            refine HST.out.mono ?_
            rintro e w9 ⟨v, rfl, hC, hO, hi, -⟩
            have HC9 := Lib.hid hC
            have HI9 := Lib.hid (ints_onl HI.out hO HGN.out)
            obtain ⟨A4, c4, rfl⟩ := hi.form
            clear hC hO hi HI HST
            go_wp2
            go_round
            case rel => exact ⟨j + 1, s4, by omega, by go_num, HC9.out, HLW4.out, HW4.out, HI9.out⟩
            case measure => simp [intOf]; omega
    · have hB := Lib.hid HC.out.bel
      clear HC
      by_cases h1 : k < len
      · obtain rfl : k = 20 := by omega
        go_wp2
        go_ret
        exact ⟨rfl, hB.out⟩
      · go_wp2
        go_ret
        exact ⟨rfl, hB.out⟩
end Go.Proofs.YtdhbiogcaekbbaaDoor
