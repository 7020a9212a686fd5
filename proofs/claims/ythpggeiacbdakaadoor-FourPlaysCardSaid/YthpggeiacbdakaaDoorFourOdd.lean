/- FourOdd: what may not be written is not begun; a register that is not there does nothing. -/
import Derived.Test.YthpggeiacbdakaaDoorFourK
import Derived.Test.YthpggeiacbdakaaDoorOpens
import Derived.Test.YthpggeiacbdakaaDoorTake
namespace Go.Proofs.YthpggeiacbdakaaDoor
open Go.RowKit

set_option maxRecDepth 100000 in
set_option maxHeartbeats 3200000 in
theorem fourOdd_law (n0 : Int) (A : Option Addr) (len cap : Nat) (l0 : List Int) (x : Bool) (w : World) (hS : IntsIn w (.slice A len cap) l0) (hlc : len ≤ cap) (_ : cap ≤ maxLen) :
    Calls Tryd.prog 8 #[.int .i64 n0, .slice A len cap, .bool x] w fun e w' => e = .returned (.bool true) ∧ Below w.heap.size w w' := by
  go_enter Tryd.func8, Tryd.ntmps8
  go_wp2_with fail
  refine (lives_any w).mono ?_
  rintro e w1 ⟨rfl, hB1⟩
  go_wp2_with fail
  refine (ctx_new n0 hB1).mono ?_
  rintro e w2 ⟨b, mb, lb, rfl, hB2, hc⟩
  have hwn := wordsOf_bd n0
  have HC := Lib.hid hc
  have HE := Lib.hid (show (FS.new (wordsOf n0)).W = wordsOf n0 ∧ (FS.new (wordsOf n0)).iw = 0 from ⟨rfl, rfl⟩)
  generalize FS.new (wordsOf n0) = s at *
  generalize wordsOf n0 = n at *
  obtain ⟨k, hk⟩ : ∃ k, k = min len 10 := ⟨_, rfl⟩
  have hS2 := (hS.below (hB1.trans (hB2.mono hB1.size))).take k (by omega)
  obtain ⟨hI, hlen⟩ := hS2
  generalize l0.take k = l at *
  have HS := Lib.hid (And.intro hI hlen)
  clear hB1 hB2 hc hS hI
  go_upto_region 4 with (fail)
  go_cut [1] (fun v wx => v = .slice A k cap ∧ wx = w2)
  case first =>
    by_cases hle : len ≤ 10
    · obtain rfl : k = len := by omega
      clear hk
      go_wp2_with fail
      go_meet
      exact ⟨rfl, rfl⟩
    · obtain rfl : k = 10 := by omega
      clear hk
      go_wp2_with fail
      go_meet
      exact ⟨rfl, rfl⟩
  case rest =>
    obtain ⟨rfl, rfl⟩ := hcut
    have hkc : k ≤ cap := by omega
    have hk10 : k ≤ 10 := by omega
    clear hk hlc
    go_wp2_with fail
    refine (ctx_words HC.out).mono ?_
    rintro e w3 ⟨rfl, rfl⟩
    rw [HE.out.1]
    go_wp2
    go_loop [8, 9] (fun mm i => ∃ (j : Nat) (m : Bool), j ≤ k ∧ i = .int .i64 j ∧ mm = .bool m ∧ (m = true ↔ k = n ∧ ∀ t (h : t < l.length), t < j → okWord l[t])) (fun _ i => k - (intOf i).toNat)
    case atStart =>
      refine ⟨0, (k : Int) == (n : Int), Nat.zero_le _, rfl, rfl, ?_⟩
      constructor
      · intro e
        exact ⟨by simp at e; omega, fun t _ h => by omega⟩
      · rintro ⟨e, _⟩
        simp [e]
    case round =>
      obtain ⟨j, m, hj, rfl, rfl, hm⟩ := hrel
      have HM := Lib.hid hm
      clear hm
      by_cases hlt : j < k
      · obtain ⟨A', c', e, hlc, hcells⟩ := HS.out.1
        have hlen' := HS.out.2
        obtain ⟨g, o, rfl, hcell⟩ := hcells (by omega)
        injection e with e1 e2 e3
        subst e1 e3
        have hjl : j < l.length := by omega
        have cj := hcell j hjl
        have hy : ∃ y, l[j] = y := ⟨_, rfl⟩
        obtain ⟨y, hy⟩ := hy
        rw [hy] at cj
        have HY := Lib.hid hy
        have b1 : (j : Int) < (k : Int) := by omega
        have b0 : (0 : Int) ≤ (j : Int) := by omega
        have HNX := Lib.hid (show ∀ m' : Bool, (m' = true ↔ m = true ∧ okWord y) → (m' = true ↔ k = n ∧ ∀ t (h : t < l.length), t < j + 1 → okWord l[t]) from fun m' hm' => by
          rw [hm', HM.out]
          constructor
          · rintro ⟨⟨h1, h2⟩, h3⟩
            refine ⟨h1, fun t ht htj => ?_⟩
            rcases Nat.lt_or_ge t j with h' | h'
            · exact h2 t ht h'
            · have : t = j := by omega
              subst this
              rw [hy]
              exact h3
          · rintro ⟨h1, h2⟩
            exact ⟨⟨h1, fun t ht htj => h2 t ht (by omega)⟩, by rw [← hy]; exact h2 j hjl (by omega)⟩)
        clear hcells hcell e2 hlc hlen'
        cases m
        · go_wp2
          go_round
          case rel => exact ⟨j + 1, false, by omega, by go_num, rfl, HNX.out false (by simp)⟩
          case measure => simp [intOf]; omega
        · by_cases h0 : 0 ≤ y
          · by_cases h1 : y ≤ 2147483647
            · go_wp2
              go_round
              case rel => exact ⟨j + 1, true, by omega, by go_num, by simp, HNX.out true (by simp [okWord]; omega)⟩
              case measure => simp [intOf]; omega
            · go_wp2
              go_round
              case rel => exact ⟨j + 1, false, by omega, by go_num, by simp, HNX.out false (by simp [okWord]; omega)⟩
              case measure => simp [intOf]; omega
          · go_wp2
            go_round
            case rel => exact ⟨j + 1, false, by omega, by go_num, by simp, HNX.out false (by simp [okWord]; omega)⟩
            case measure => simp [intOf]; omega
      · obtain rfl : j = k := by omega
        have hall : m = true ↔ l.length = s.W ∧ allOk l := by
          rw [HM.out, HE.out.1]
          refine and_congr (by rw [HS.out.2]) ⟨fun h v hv => ?_, fun h t ht _ => h _ (List.getElem_mem ht)⟩
          obtain ⟨t, ht, rfl⟩ := List.getElem_of_mem hv
          exact h t ht (by rw [HS.out.2] at ht; exact ht)
        have HALL := Lib.hid hall
        have hl65 : l.length ≤ 65536 := by rw [HS.out.2]; omega
        have HV := Lib.hid HS.out.1
        clear HM hall
        have HC2 := Lib.hid (ctx_wr HC.out HV.out hl65)
        cases m
        · have hw : s.wr l = (s, 3) := by
            unfold FS.wr
            rw [if_neg (fun h => by have := HALL.out.2 h; cases this)]
          rw [hw] at HC2
          have HL := Lib.hid (show ∀ (w' : World), Ctx w w' b mb lb (fun _ => False) s → Calls Tryd.prog 14 #[.pointer (some ⟨b, 0, none⟩), .bool true] w' fun e w'' => e = .returned (.int .i64 0) ∧ w' = w'' from fun w' h => by
            have := ctx_left h true
            rw [show s.left true = 0 from HE.out.2] at this
            exact this)
          clear HALL hl65 hw
          go_wp2_with fail
          refine HC2.out.mono ?_
          rintro e w5 ⟨rfl, h5, -⟩
          have H5 := Lib.hid h5
          have HLL := Lib.hid (HL.out _ h5)
          clear h5
          go_wp2_with fail
          refine (step_nil x _).mono ?_
          rintro e w6 ⟨rfl, rfl⟩
          go_wp2_with fail
          refine HLL.out.mono ?_
          rintro e w6 ⟨rfl, rfl⟩
          go_wp2_with fail
          refine (write_nil A j cap _).mono ?_
          rintro e w6 ⟨rfl, hb6⟩
          go_wp2_with fail
          refine (read_nil _).mono ?_
          rintro e w7 ⟨rfl, hb7⟩
          go_wp2_with fail
          refine (drop_nil x _).mono ?_
          rintro e w8 ⟨rfl, rfl⟩
          go_wp2_with fail
          refine (left_nil x _).mono ?_
          rintro e w8 ⟨rfl, rfl⟩
          go_wp2_with fail
          refine (words_nil _).mono ?_
          rintro e w8 ⟨rfl, rfl⟩
          go_wp2_with fail
          refine (cells_nil _).mono ?_
          rintro e w8 ⟨rfl, rfl⟩
          go_wp2
          go_ret
          exact ⟨rfl, (H5.out.bel.trans (hb6.mono H5.out.bel.size)).trans (hb7.mono (H5.out.bel.trans (hb6.mono H5.out.bel.size)).size)⟩
        · have hg := HALL.out.1 rfl
          have hw : s.wr l = (s.wrt l, 0) := by
            unfold FS.wr
            rw [if_pos hg, if_pos HE.out.2]
          rw [hw] at HC2
          clear HALL hl65 hw hg
          go_wp2_with fail
          refine HC2.out.mono ?_
          rintro e w5 ⟨rfl, h5, -⟩
          have H5 := Lib.hid h5
          clear h5
          go_wp2_with fail
          refine (step_nil x _).mono ?_
          rintro e w6 ⟨rfl, rfl⟩
          go_wp2_with fail
          refine (write_nil A j cap _).mono ?_
          rintro e w6 ⟨rfl, hb6⟩
          go_wp2_with fail
          refine (read_nil _).mono ?_
          rintro e w7 ⟨rfl, hb7⟩
          go_wp2_with fail
          refine (drop_nil x _).mono ?_
          rintro e w8 ⟨rfl, rfl⟩
          go_wp2_with fail
          refine (left_nil x _).mono ?_
          rintro e w8 ⟨rfl, rfl⟩
          go_wp2_with fail
          refine (words_nil _).mono ?_
          rintro e w8 ⟨rfl, rfl⟩
          go_wp2_with fail
          refine (cells_nil _).mono ?_
          rintro e w8 ⟨rfl, rfl⟩
          go_wp2
          go_ret
          exact ⟨rfl, (H5.out.bel.trans (hb6.mono H5.out.bel.size)).trans (hb7.mono (H5.out.bel.trans (hb6.mono H5.out.bel.size)).size)⟩
end Go.Proofs.YthpggeiacbdakaaDoor
