/- FourOther: while a read has its place no write changes the word that it is to read; an access changes one cell at most: the walk. -/
import Derived.Test.YthpggeiacbdakaaDoorFourO
namespace Go.Proofs.YthpggeiacbdakaaDoor
open Go.RowKit

theorem turn_any {F : Prop} {W w : World} {b mb lb x : Nat} {X : Nat → Prop} {s : FS} {begun over low last : Nat} (h : WAt F W w b mb lb x X s begun over low last) (hbg : begun ≤ 1000) (y : Bool) :
    Calls Tryd.prog 12 #[.pointer (some ⟨x, 0, none⟩), .bool y] w fun e w' => (∃ v : Value, e = .returned v) ∧ ∃ s' begun' over' low', begun' ≤ begun + 1 ∧ WAt F W w' b mb lb x X s' begun' over' low' last ∧ s'.W = s.W ∧ (y = true → FromW s s') ∧ (y = false → FromR s s') ∧ KX x X w w' := by
  cases y
  · exact (turn_r h).mono fun e w' ⟨v, d, s', low', he, hW, ⟨h1, h2, h3⟩, _⟩ => ⟨⟨_, he⟩, s', begun, over, low', by omega, hW, h1, (fun e => by cases e), fun _ => h2, h3⟩
  · exact (turn_w h hbg).mono fun e w' ⟨he, s', begun', over', hb, hW, h1, h2, h3⟩ => ⟨⟨_, he⟩, s', begun', over', low, hb, hW, h1, fun _ => h2, (fun e => by cases e), h3⟩
set_option maxRecDepth 100000 in
set_option maxHeartbeats 3200000 in
theorem fourOther_law (A : Option Addr) (len cap bs off : Nat) (P : Nat → Bool) (w : World) (hS : BoolsIn w A len bs off P) (_ : len ≤ cap) (_ : cap ≤ maxLen) :
    Calls Tryd.prog 7 #[.slice A len cap] w fun e w' => e = .returned (.bool true) ∧ Below w.heap.size w w' := by
  go_enter Tryd.func7, Tryd.ntmps7
  go_wp2_with fail
  refine (lives_any w).mono ?_
  rintro e w1 ⟨rfl, hB1⟩
  go_wp2_with fail
  refine (ctx_new 1 hB1).mono ?_
  rintro e w2 ⟨b, mb, lb, rfl, hB2, hC⟩
  obtain ⟨X, hW0⟩ := wat_new (F := False) hC
  have HW := Lib.hid hW0
  have HE := Lib.hid (show (FS.new (wordsOf 1)).W = 1 ∧ PlaceAt (FS.new (wordsOf 1)) 4 from ⟨rfl, by omega, by omega, fun e => by simp [FS.new] at e⟩)
  have HS := Lib.hid hS
  clear hS hB1 hB2 hC hW0
  go_wp2
  generalize FS.new (wordsOf 1) = t0 at *
  change Code.wp _ _ _ _ (w2.alloc (.cells (wCells b 0 0 0 0) 28))
  generalize w2.alloc (.cells (wCells b 0 0 0 0) 28) = wL at *
  generalize w2.heap.size = x at *
  go_loopw [4, 5] (fun pl i wr => ∃ (k place : Nat) (X : Nat → Prop) (s : FS) (begun over low last : Nat), k ≤ len ∧ k ≤ 200 ∧ i = .int .i64 k ∧ pl = .int .i64 place ∧ WAt False w wr b mb lb x X s begun over low last ∧ s.W = 1 ∧ PlaceAt s place ∧ begun ≤ k) (fun _ i _ => len - (intOf i).toNat)
  case atStart => exact ⟨0, 4, X, t0, 0, 0, 0, 0, Nat.zero_le _, by omega, rfl, rfl, HW.out, HE.out.1, HE.out.2, Nat.le_refl _⟩
  case round =>
    clear HW HE X t0
    obtain ⟨k, place, X, s, begun, over, low, last, hk, hk3, rfl, rfl, hW, hs1, hpl, hbg⟩ := hrel
    have HW := Lib.hid hW
    have HP := Lib.hid (And.intro hs1 hpl)
    clear hW hs1 hpl
    by_cases hlt : k < len ∧ k < 200
    · obtain ⟨hlt, hlt3⟩ := hlt
      obtain rfl : A = some ⟨bs, off, none⟩ := HS.out.at_.resolve_right (by omega)
      have k0 := HW.out.k0
      have b1 : (k : Int) < (len : Int) := by omega
      have b2 : (k : Int) < 200 := by omega
      have b0 : (0 : Int) ≤ (k : Int) := by omega
      go_wp2_with fail
      refine (ctx_left HW.out.c false).mono ?_
      rintro e w3 ⟨rfl, rfl⟩
      rw [show s.left false = s.ow from rfl]
      go_wp2_with fail
      refine (ctx_told HW.out.c HP.out.1).mono ?_
      rintro e w3 ⟨g1, c1, rfl, hc1, hg1, hg1', hcell1, hb3⟩
      have hxl := HW.out.k.lt
      have HG := Lib.hid (show newX X wr w3 g1 ∧ g1 ≠ x from ⟨.inr ⟨hg1, hg1'⟩, by omega⟩)
      have HW3 := Lib.hid (HW.out.grow hb3)
      have HC1 := Lib.hid hcell1
      have k0 := HW3.out.k0
      have s0 := (HS.out.below HW3.out.c.bel).c0 k hlt
      clear HW hg1 hg1' hxl hcell1 hb3
      generalize newX X wr w3 = X3 at *
      go_wp2_with fail
      refine (turn_any HW3.out (by omega) (P k)).mono ?_
      rintro e w4 ⟨⟨v4, rfl⟩, s4, begun4, over4, low4, hbg4, hW4, hs4, hfw, hfr, hkx⟩
      have HC4 := Lib.hid (show ∀ i, i < 8 → w4.cell? ⟨g1, i, none⟩ = some (.int .i64 (valAt s.mem i)) from fun i hi => (World.cell?_of_block (a := ⟨g1, i, none⟩) (hkx g1 HG.out)).trans (HC1.out i hi))
      have HW4 := Lib.hid hW4
      have HF4 := Lib.hid (show ∃ m u, s4.mem = s.mem.set m u ∧ (P k = true → PlaceAt s4 place ∧ (s.ow = 1 → valAt s4.mem place = valAt s.mem place)) ∧ (P k = false → (s.ow ≠ 2 → PlaceAt s4 place) ∧ (s.ow = 2 → PlaceAt s4 (4 + 2 * s4.g 1 + s4.g (2 + s4.g 1)))) from by
        obtain ⟨v, vr, hI, -⟩ := HW3.out.inv
        cases hp : P k
        · obtain ⟨⟨m, u, e⟩, e1, e2⟩ := place_r HW3.out.c.ok hW4.c.ok hI HP.out.1 (hfr hp) HP.out.2
          exact ⟨m, u, e, (fun e => by cases e), fun _ => ⟨e1, e2⟩⟩
        · obtain ⟨e0, m, u, e, e1⟩ := place_w HW3.out.c.ok hI HP.out.1 (hfw hp) HP.out.2
          exact ⟨m, u, e, fun _ => ⟨e0, e1⟩, (fun e => by cases e)⟩)
      have HS4 := Lib.hid (hs4.trans HP.out.1)
      have k0 := HW4.out.k0
      have HB4 := Lib.hid hbg4
      clear HW3 HC1 HG hW4 hs4 hfw hfr hkx X hbg4
      go_wp2_with fail
      refine (ctx_told HW4.out.c HS4.out).mono ?_
      rintro e w5 ⟨g2, c2, rfl, hc2, hg2, hg2', hcell2, hb5⟩
      have HW5 := Lib.hid (HW4.out.below hb5)
      have HC5 := Lib.hid (show ∀ i, i < 8 → w5.cell? ⟨g1, i, none⟩ = some (.int .i64 (valAt s.mem i)) from fun i hi => (hb5.cell (World.block_lt_of_cell? _ _ (HC4.out i hi))).trans (HC4.out i hi))
      have HD5 := Lib.hid hcell2
      have k0 := HW5.out.k0
      have k5 := HW5.out.k5
      have s0 := (HS.out.below HW5.out.c.bel).c0 k hlt
      clear HW4 HC4 hg2 hg2' hcell2 hb5
      obtain ⟨m, u, hmu, hF1, hF2⟩ := HF4.out
      have HM := Lib.hid hmu
      have HF := Lib.hid (And.intro hF1 hF2)
      clear HF4 hmu hF1 hF2
      go_wp2_with fail
      go_loopw [9, 10] (fun c i wx => ∃ (j cc q : Nat), j ≤ 8 ∧ i = .int .i64 j ∧ c = .int .i64 cc ∧ cc ≤ 1 ∧ (j ≤ m → cc = 0) ∧ wx = w5.drewN q) (fun _ i _ => 8 - (intOf i).toNat)
      case atStart => exact ⟨0, 0, 0, by omega, rfl, rfl, by omega, fun _ => rfl, rfl⟩
      case round =>
        obtain ⟨j, cc, q, hj, rfl, rfl, hcc, hcm, rfl⟩ := hrel
        by_cases hjl : j < 8
        · have d1 := HC5.out j hjl
          have d2 := HD5.out j hjl
          have b3 : (0 : Int) ≤ (j : Int) := by omega
          have b4 : (j : Int) < 8 := by omega
          have b5 : (j : Int) < (c1 : Int) := by omega
          have HCM := Lib.hid hcm
          have HNE := Lib.hid (show valAt s.mem j ≠ valAt s4.mem j → j = m from fun h => by
            by_cases e : m = j
            · exact e.symm
            · rw [HM.out, val_set_ne e] at h
              exact absurd rfl h)
          clear hcm
          generalize valAt s.mem j = a1 at *
          generalize valAt s4.mem j = a2 at *
          by_cases hne : a1 = a2
          · have bn : (a1 != a2) = false := by simp [hne]
            go_wp2_with fail
            go_quiet (fail)
            go_wp2
            go_roundw
            case rel => exact ⟨j + 1, cc, _, by omega, by go_num, rfl, hcc, fun e => HCM.out (by omega), rfl⟩
            case measure => simp [intOf]; omega
          · have bn : (a1 != a2) = true := by simp [hne]
            obtain rfl := HNE.out hne
            obtain rfl := HCM.out (Nat.le_refl _)
            go_wp2_with fail
            go_quiet (fail)
            go_wp2
            go_roundw
            case rel => exact ⟨j + 1, 1, _, by omega, by go_num, by go_num, Nat.le_refl _, fun e => by omega, rfl⟩
            case measure => simp [intOf]; omega
        · obtain rfl : j = 8 := by omega
          have hbit : ∀ i, i < 4 → valAt s4.mem i = ((s4.g i : Nat) : Int) ∧ s4.g i ≤ 1 := fun i hi => by
            have := HW5.out.c.ok.bit i hi
            exact ⟨by unfold valAt; rw [this.1]; rfl, this.2⟩
          have d1 := HD5.out 1 (by omega)
          have d2 := HD5.out 2 (by omega)
          have d3 := HD5.out 3 (by omega)
          rw [(hbit 1 (by omega)).1] at d1
          rw [(hbit 2 (by omega)).1] at d2
          rw [(hbit 3 (by omega)).1] at d3
          have e1 := (hbit 1 (by omega)).2
          have e2 := (hbit 2 (by omega)).2
          have e3 := (hbit 3 (by omega)).2
          have n1 : ¬ ((s4.g 1 : Nat) : Int) < 0 := by omega
          have n2 : ¬ ((s4.g 2 : Nat) : Int) < 0 := by omega
          have n3 : ¬ ((s4.g 3 : Nat) : Int) < 0 := by omega
          have p1 : ¬ ((s4.g 1 : Nat) : Int) > 1 := by omega
          have p2 : ¬ ((s4.g 2 : Nat) : Int) > 1 := by omega
          have p3 : ¬ ((s4.g 3 : Nat) : Int) > 1 := by omega
          have pc : ¬ ((cc : Nat) : Int) > 1 := by omega
          have b4 : ¬ ((8 : Nat) : Int) < 8 := by omega
          have b6 : (1 : Int) < 8 := by omega
          clear hbit hcm
          cases hp : P k
          · rw [hp] at s0
            obtain ⟨hf1, hf2⟩ := HF.out.2 hp
            by_cases how : s.ow = 2
            · have HPL := Lib.hid (hf2 how)
              have bo : ((s.ow : Int) == 2) = true := by simp [how]
              have bo1 : ((s.ow : Int) == 1) = false := by simp [how]
              clear hf1 hf2 HF
              rcases (show s4.g 1 = 0 ∨ s4.g 1 = 1 by omega) with hr | hr
              · rw [hr] at HPL d1 n1 p1
                generalize s4.g 2 = r2 at *
                generalize s4.g 3 = r3 at *
                go_wp2_with fail
                go_quiet (fail)
                go_wp2_with fail
                go_quiet (fail)
                go_wp2
                go_roundw
                case rel => exact ⟨k + 1, _, X3, s4, begun4, over4, low4, last, by omega, by omega, by go_num, by go_num, HW5.out.below (below_drewN' _ _), HS4.out, HPL.out, by have := HB4.out; omega⟩
                case measure => simp [intOf]; omega
              · rw [hr] at HPL d1 n1 p1
                generalize s4.g 2 = r2 at *
                generalize s4.g 3 = r3 at *
                go_wp2_with fail
                go_quiet (fail)
                go_wp2_with fail
                go_quiet (fail)
                go_wp2
                go_roundw
                case rel => exact ⟨k + 1, _, X3, s4, begun4, over4, low4, last, by omega, by omega, by go_num, by go_num, HW5.out.below (below_drewN' _ _), HS4.out, HPL.out, by have := HB4.out; omega⟩
                case measure => simp [intOf]; omega
            · have HPL := Lib.hid (hf1 how)
              have bo : ((s.ow : Int) == 2) = false := by simp; omega
              clear hf1 hf2 HF
              go_wp2_with fail
              go_quiet (fail)
              go_wp2
              go_roundw
              case rel => exact ⟨k + 1, place, X3, s4, begun4, over4, low4, last, by omega, by omega, by go_num, rfl, HW5.out.below (below_drewN' _ _), HS4.out, HPL.out, by have := HB4.out; omega⟩
              case measure => simp [intOf]; omega
          · rw [hp] at s0
            obtain ⟨hf1, hf2⟩ := HF.out.1 hp
            have HPL := Lib.hid hf1
            have hpa := HPL.out.1
            have hpb := HPL.out.2.1
            by_cases how : s.ow = 1
            · have d4 := HC5.out place (by omega)
              have d5 := HD5.out place (by omega)
              rw [hf2 how] at d5
              have bo : ((s.ow : Int) == 1) = true := by simp [how]
              have b7 : (0 : Int) ≤ (place : Int) := by omega
              have b8 : (place : Int) < 8 := by omega
              clear hf1 hf2 HF
              go_wp2_with fail
              go_quiet (fail)
              go_wp2
              go_roundw
              case rel => exact ⟨k + 1, place, X3, s4, begun4, over4, low4, last, by omega, by omega, by go_num, rfl, HW5.out.below (below_drewN' _ _), HS4.out, HPL.out, by have := HB4.out; omega⟩
              case measure => simp [intOf]; omega
            · have bo : ((s.ow : Int) == 1) = false := by simp; omega
              clear hf1 hf2 HF
              go_wp2_with fail
              go_quiet (fail)
              go_wp2
              go_roundw
              case rel => exact ⟨k + 1, place, X3, s4, begun4, over4, low4, last, by omega, by omega, by go_num, rfl, HW5.out.below (below_drewN' _ _), HS4.out, HPL.out, by have := HB4.out; omega⟩
              case measure => simp [intOf]; omega
    · have hB := Lib.hid HW.out.c.bel
      clear HW
      by_cases h1 : k < len
      · obtain rfl : k = 200 := by omega
        go_wp2
        go_ret
        exact ⟨rfl, hB.out⟩
      · go_wp2
        go_ret
        exact ⟨rfl, hB.out⟩
end Go.Proofs.YthpggeiacbdakaaDoor
