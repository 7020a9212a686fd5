/- SampleOdd: what may not be written uses no number; a port that isn't there does nothing. -/
import Derived.Test.YtmcelldklmjlkaaDoorSampH
import Derived.Test.YtmcelldklmjlkaaDoorOpens
import Derived.Test.YtmcelldklmjlkaaDoorTake
import Derived.BigGuard
namespace Go.Proofs.YtmcelldklmjlkaaDoor
open Go.RowKit

theorem sstep_nil (x : Bool) (now : Int) (w : World) : Calls Tryd.prog 11 #[.pointer none, .bool x, .int .i64 now] w fun e w' => e = .returned (.tuple #[.agg (valC (.slice none 0 0) SV.none), .bool false, .int .i64 2]) ∧ Below w.heap.size w w' := by
  have HB := Lib.hid (below_alloc (w := w) (Nat.le_refl _) (.cells (valC (.slice none 0 0) SV.none) 32))
  have HZ := Lib.hid (Blk.new w 32 (valC (.slice none 0 0) SV.none))
  go_enter Tryd.func11, Tryd.ntmps11
  go_wp2_with fail
  refine (register_nil _).mono ?_
  rintro e w' ⟨rfl, rfl⟩
  go_wp2_with fail
  refine (step_nil x _).mono ?_
  rintro e w' ⟨rfl, rfl⟩
  clear HB
  have HB := Lib.hid (below_alloc (w := w) (Nat.le_refl _) (.cells (valC (.slice none 0 0) SV.none) 32))
  go_wp2
  refine bodyPost_ret (res_c3 rfl _ rfl HZ.out Tryd.underlying32 rfl vinfo) rfl ⟨rfl, HB.out⟩
set_option maxRecDepth 100000 in
set_option maxHeartbeats 12800000 in
theorem sampleOdd_law (n0 : Int) (A : Option Addr) (len cap : Nat) (l0 : List Int) (x : Bool) (w : World) (hS : IntsIn w (.slice A len cap) l0) (hlc : len ≤ cap) (_ : cap ≤ maxLen) :
    Calls Tryd.prog 7 #[.int .i64 n0, .slice A len cap, .bool x] w fun e w' => e = .returned (.bool true) ∧ Below w.heap.size w w' := by
  go_enter Tryd.func7, Tryd.ntmps7
  go_wp2_with fail
  refine (lives_any w).mono ?_
  rintro e w1 ⟨rfl, hB1⟩
  obtain ⟨k, hk⟩ : ∃ k, k = min len 8 := ⟨_, rfl⟩
  go_upto_region 3 with (fail)
  go_cut [1] from 19 to 23 (fun v wx => v = .slice A k cap ∧ wx = w1)
  case first =>
    by_cases hle : len ≤ 8
    · obtain rfl : k = len := by omega
      clear hk
      go_wp2_with fail
      go_meet
      exact ⟨rfl, rfl⟩
    · obtain rfl : k = 8 := by omega
      clear hk
      go_wp2_with fail
      go_meet
      exact ⟨rfl, rfl⟩
  case rest =>
    obtain ⟨rfl, rfl⟩ := hcut
    go_wp2_with fail
    refine (snew_any wc n0 0).mono ?_
    rintro e w2 ⟨W, pb, kb, b, mb, lb, X, rfl, hW, hP⟩
    have hb2 := hB1.trans (hW.mono hB1.size)
    have HB := Lib.hid hb2
    have HP := Lib.hid hP
    have hV : ∀ W', Below w.heap.size w W' → IntsIn W' (.slice A k cap) (l0.take k) := fun W' hb => ((hS.below hb).take k (by omega)).1
    have hS2 := (hS.below (hb2.trans (hP.bel.mono hb2.size))).take k (by omega)
    obtain ⟨hI, hlen⟩ := hS2
    generalize l0.take k = l at *
    have HS := Lib.hid (And.intro hI hlen)
    have HV := Lib.hid hV
    have hkc : k ≤ cap := by omega
    have hk10 : k ≤ 8 := by omega
    have hnb := pwords_bd n0
    have HPU := Lib.hid (odd_pure (pwords n0) 0 l _ rfl)
    have HNP := Lib.hid (show ((pwords n0 : Nat) : Int) = min (max n0 1) 4 from by unfold pwords; omega)
    generalize SP.new (pwords n0) 0 = p0 at *
    generalize pwords n0 = n at *
    clear hB1 hW hP hS hI hb2 hk hlc hV
    go_upto_region 5 with (fail)
    go_cut [8] from 27 to 32 (fun v wx => v = .bool ((k : Int) == (n : Int)) ∧ wx = w2)
    case first =>
      rcases (show n0 < 1 ∨ (1 ≤ n0 ∧ n0 ≤ 4) ∨ 4 < n0 by omega) with h | ⟨h, h'⟩ | h
      · rw [show min (max n0 1) 4 = 1 from by omega] at HNP
        go_wp2_with fail
        go_meet
        exact ⟨by rw [HNP.out], rfl⟩
      · rw [show min (max n0 1) 4 = n0 from by omega] at HNP
        go_wp2_with fail
        go_meet
        exact ⟨by rw [HNP.out], rfl⟩
      · rw [show min (max n0 1) 4 = 4 from by omega] at HNP
        go_wp2_with fail
        go_meet
        exact ⟨by rw [HNP.out], rfl⟩
    case rest =>
      obtain ⟨rfl, rfl⟩ := hcut
      clear HNP
      go_wp2
      go_loop [8, 9] (fun mm i => ∃ (j : Nat) (m : Bool), j ≤ k ∧ i = .int .i64 j ∧ mm = .bool m ∧ (m = true ↔ k = n ∧ ∀ t (h : t < l.length), t < j → okWord l[t])) (fun _ i => k - (intOf i).toNat)
      case atStart =>
        refine ⟨0, (k : Int) == (n : Int), Nat.zero_le _, rfl, rfl, ?_⟩
        constructor
        · intro e
          exact ⟨by simp at e; omega, fun t _ h => by omega⟩
        · rintro ⟨e, _⟩
          simp [e]
      case round =>
        obtain ⟨j, m, hj, rfl, rfl, hm⟩ := hrel
        have HM := Lib.hid hm
        clear hm
        by_cases hlt : j < k
        · obtain ⟨A', c', e, hlc, hcells⟩ := HS.out.1
          have hlen' := HS.out.2
          obtain ⟨g, o, rfl, hcell⟩ := hcells (by omega)
          injection e with e1 e2 e3
          subst e1 e3
          have hjl : j < l.length := by omega
          have cj := hcell j hjl
          have hy : ∃ y, l[j] = y := ⟨_, rfl⟩
          obtain ⟨y, hy⟩ := hy
          rw [hy] at cj
          have HY := Lib.hid hy
          have b1 : (j : Int) < (k : Int) := by omega
          have b0 : (0 : Int) ≤ (j : Int) := by omega
          have HNX := Lib.hid (show ∀ m' : Bool, (m' = true ↔ m = true ∧ okWord y) → (m' = true ↔ k = n ∧ ∀ t (h : t < l.length), t < j + 1 → okWord l[t]) from fun m' hm' => by
            rw [hm', HM.out]
            constructor
            · rintro ⟨⟨h1, h2⟩, h3⟩
              refine ⟨h1, fun t ht htj => ?_⟩
              rcases Nat.lt_or_ge t j with h' | h'
              · exact h2 t ht h'
              · have : t = j := by omega
                subst this
                rw [hy]
                exact h3
            · rintro ⟨h1, h2⟩
              exact ⟨⟨h1, fun t ht htj => h2 t ht (by omega)⟩, by rw [← hy]; exact h2 j hjl (by omega)⟩)
          clear hcells hcell e2 hlc hlen'
          cases m
          · go_wp2
            go_round
            case rel => exact ⟨j + 1, false, by omega, by go_num, rfl, HNX.out false (by simp)⟩
            case measure => simp [intOf]; omega
          · by_cases h0 : 0 ≤ y
            · by_cases h1 : y ≤ 2147483647
              · go_wp2
                go_round
                case rel => exact ⟨j + 1, true, by omega, by go_num, by simp, HNX.out true (by simp [okWord]; omega)⟩
                case measure => simp [intOf]; omega
              · go_wp2
                go_round
                case rel => exact ⟨j + 1, false, by omega, by go_num, by simp, HNX.out false (by simp [okWord]; omega)⟩
                case measure => simp [intOf]; omega
            · go_wp2
              go_round
              case rel => exact ⟨j + 1, false, by omega, by go_num, by simp, HNX.out false (by simp [okWord]; omega)⟩
              case measure => simp [intOf]; omega
        · obtain rfl : j = k := by omega
          have hall : m = true ↔ l.length = n ∧ allOk l := by
            rw [HM.out]
            refine and_congr (by rw [HS.out.2]) ⟨fun h v hv => ?_, fun h t ht _ => h _ (List.getElem_mem ht)⟩
            obtain ⟨t, ht, rfl⟩ := List.getElem_of_mem hv
            exact h t ht (by rw [HS.out.2] at ht; exact ht)
          have hl65 : l.length ≤ 65000 := by rw [HS.out.2]; omega
          have HW1 := Lib.hid (sctx_write HP.out HS.out.1 hl65 3)
          clear HM HP HS
          cases m
          · have hr := HPU.out.2 (fun h => by have := hall.2 h; cases this)
            clear hall
            go_wp2_with fail
            refine HW1.out.mono ?_
            rintro e w3 ⟨rfl, h3, -⟩
            have HV3 := Lib.hid (HV.out w3 (HB.out.trans (h3.bel.mono HB.out.size)))
            have HW2 := Lib.hid (sctx_write h3 HV3.out hl65 3)
            rw [hr.1]
            clear h3 HW1
            go_wp2_with fail
            refine HW2.out.mono ?_
            rintro e w4 ⟨rfl, h4, -⟩
            rw [hr.2.1]
            have hq := hr.2.2
            generalize ((p0.wr l 3).1.wr l 3).1 = p2 at *
            have H4 := Lib.hid h4
            have HR := Lib.hid hq
            clear h4 hr hq HW2 HPU
            go_upto_region 13 with (fail)
            go_cut [13, 14, 15] from 60 to 66 (fun v3 v4 v5 wx => ∃ vb, v3 = .pointer (some ⟨vb, 0, none⟩) ∧ v4 = .bool false ∧ v5 = .int .i64 2 ∧ Blk wx vb 32 #[.slice none 0 0, .int .i64 0, .int .i64 0, .bool false, .bool false] ∧ PCtx W wx pb kb b mb lb X p2)
            case first =>
              go_wp2_with fail
              refine (sstep_nil x 1 _).mono ?_
              rintro e w5 ⟨rfl, hb5⟩
              have hba := below_alloc (w := w5) (Nat.le_refl _) (.cells (valC (.slice none 0 0) SV.none) 32)
              have HX := Lib.hid (And.intro (Blk.new w5 32 (valC (.slice none 0 0) SV.none)) ((H4.out.below hb5).below hba))
              clear hb5 hba H4
              unfold valC SV.none at HX ⊢
              go_wp2_with fail
              go_meet
              exact ⟨_, rfl, rfl, rfl, HX.out⟩
            case rest =>
              obtain ⟨vb, rfl, rfl, rfl, hx, hP2⟩ := hcut
              have HX := Lib.hid hx
              have H5 := Lib.hid hP2
              clear hx hP2 H4
              go_upto_region 17 with (fail)
              simp only [List.append_eq, List.cons_append, List.nil_append]
              go_wp2_with fail
              refine (sctx_seq H5.out).mono ?_
              rintro e w6 ⟨rfl, rfl⟩
              rw [HR.out]
              go_wp2_with fail
              refine (swrite_nil A j cap 1 _).mono ?_
              rintro e w7 ⟨rfl, rfl⟩
              go_wp2_with fail
              refine (sread_nil _).mono ?_
              rintro e w7 ⟨rfl, hb7⟩
              have hx7 := HX.out.below hb7 HX.out.lt
              have v3 : w7.cell? ⟨vb, 3, none⟩ = some (.bool false) := (hx7.cell 3).trans rfl
              have HBF := Lib.hid (HB.out.trans ((H5.out.below hb7).bel.mono HB.out.size))
              clear hx7 hb7 HX H5
              go_wp2_with fail
              refine (sdrop_nil x _).mono ?_
              rintro e w8 ⟨rfl, rfl⟩
              go_wp2_with fail
              refine (sleft_nil x _).mono ?_
              rintro e w8 ⟨rfl, rfl⟩
              go_wp2_with fail
              refine (seq_nil _).mono ?_
              rintro e w8 ⟨rfl, rfl⟩
              go_wp2
              go_ret
              exact ⟨rfl, HBF.out⟩
          · have hr := HPU.out.1 (hall.1 rfl)
            clear hall
            go_wp2_with fail
            refine HW1.out.mono ?_
            rintro e w3 ⟨rfl, h3, -⟩
            have HV3 := Lib.hid (HV.out w3 (HB.out.trans (h3.bel.mono HB.out.size)))
            have HW2 := Lib.hid (sctx_write h3 HV3.out hl65 3)
            rw [hr.1]
            clear h3 HW1
            go_wp2_with fail
            refine HW2.out.mono ?_
            rintro e w4 ⟨rfl, h4, -⟩
            rw [hr.2.1]
            have hq := hr.2.2
            generalize ((p0.wr l 3).1.wr l 3).1 = p2 at *
            have H4 := Lib.hid h4
            have HR := Lib.hid hq
            clear h4 hr hq HW2 HPU
            go_upto_region 13 with (fail)
            go_cut [13, 14, 15] from 60 to 66 (fun v3 v4 v5 wx => ∃ vb, v3 = .pointer (some ⟨vb, 0, none⟩) ∧ v4 = .bool false ∧ v5 = .int .i64 2 ∧ Blk wx vb 32 #[.slice none 0 0, .int .i64 0, .int .i64 0, .bool false, .bool false] ∧ PCtx W wx pb kb b mb lb X p2)
            case first =>
              go_wp2_with fail
              refine (sstep_nil x 1 _).mono ?_
              rintro e w5 ⟨rfl, hb5⟩
              have hba := below_alloc (w := w5) (Nat.le_refl _) (.cells (valC (.slice none 0 0) SV.none) 32)
              have HX := Lib.hid (And.intro (Blk.new w5 32 (valC (.slice none 0 0) SV.none)) ((H4.out.below hb5).below hba))
              clear hb5 hba H4
              unfold valC SV.none at HX ⊢
              go_wp2_with fail
              go_meet
              exact ⟨_, rfl, rfl, rfl, HX.out⟩
            case rest =>
              obtain ⟨vb, rfl, rfl, rfl, hx, hP2⟩ := hcut
              have HX := Lib.hid hx
              have H5 := Lib.hid hP2
              clear hx hP2 H4
              go_upto_region 17 with (fail)
              simp only [List.append_eq, List.cons_append, List.nil_append]
              go_wp2_with fail
              refine (sctx_seq H5.out).mono ?_
              rintro e w6 ⟨rfl, rfl⟩
              rw [HR.out]
              go_wp2_with fail
              refine (swrite_nil A j cap 1 _).mono ?_
              rintro e w7 ⟨rfl, rfl⟩
              go_wp2_with fail
              refine (sread_nil _).mono ?_
              rintro e w7 ⟨rfl, hb7⟩
              have hx7 := HX.out.below hb7 HX.out.lt
              have v3 : w7.cell? ⟨vb, 3, none⟩ = some (.bool false) := (hx7.cell 3).trans rfl
              have HBF := Lib.hid (HB.out.trans ((H5.out.below hb7).bel.mono HB.out.size))
              clear hx7 hb7 HX H5
              go_wp2_with fail
              refine (sdrop_nil x _).mono ?_
              rintro e w8 ⟨rfl, rfl⟩
              go_wp2_with fail
              refine (sleft_nil x _).mono ?_
              rintro e w8 ⟨rfl, rfl⟩
              go_wp2_with fail
              refine (seq_nil _).mono ?_
              rintro e w8 ⟨rfl, rfl⟩
              go_wp2
              go_ret
              exact ⟨rfl, HBF.out⟩
end Go.Proofs.YtmcelldklmjlkaaDoor
