/- FourWhole, FourForward: the walks. -/
import Derived.Test.YthpggeiacbdakaaDoorFourR
import Derived.Test.YthpggeiacbdakaaDoorOpens
import Derived.StillTailTactics
namespace Go.Proofs.YthpggeiacbdakaaDoor
open Go.RowKit

/-- Turns that came in: their cells. -/
structure TurnIn (w : World) (A : Option Addr) (n : Nat) (bs off : Nat) (P Q : Nat → Bool) : Prop where
  at_ : A = some ⟨bs, off, none⟩ ∨ n = 0
  c0 : ∀ i, i < n → w.cell? ⟨bs, off + i * 2, none⟩ = some (.bool (P i))
  c1 : ∀ i, i < n → w.cell? ⟨bs, off + i * 2 + 1, none⟩ = some (.bool (Q i))
theorem TurnIn.below {w w' : World} {A : Option Addr} {n bs off : Nat} {P Q : Nat → Bool} (h : TurnIn w A n bs off P Q) (hb : Below w.heap.size w w') : TurnIn w' A n bs off P Q :=
  ⟨h.at_, fun i hi => (hb.cell (World.block_lt_of_cell? _ _ (h.c0 i hi))).trans (h.c0 i hi), fun i hi => (hb.cell (World.block_lt_of_cell? _ _ (h.c1 i hi))).trans (h.c1 i hi)⟩
theorem wat_new {F : Prop} {W w : World} {b mb lb n : Nat} (hC : Ctx W w b mb lb (fun _ => False) (FS.new n)) : ∃ X, WAt F W (w.alloc (.cells (wCells b 0 0 0 0) 28)) b mb lb w.heap.size X (FS.new n) 0 0 0 0 :=
  ⟨_, hC.grow (below_alloc (Nat.le_refl _) (.cells (wCells b 0 0 0 0) 28)), Blk.new w 28 (wCells b 0 0 0 0), .inr ⟨Nat.le_refl _, by simp⟩, hC.bel.size, ⟨_, _, inv_new n, fun _ => fwd_new n⟩⟩
theorem wat_drop {W w w' : World} {b mb lb x : Nat} {X : Nat → Prop} {s : FS} {begun over low last : Nat} (h : WAt False W w b mb lb x X s begun over low last) (y : Bool) (hC : Ctx W w' b mb lb X (s.drop y)) (hK : Kept X w w') : WAt False W w' b mb lb x X (s.drop y) begun over low last := by
  obtain ⟨v, vr, hi, -⟩ := h.inv
  exact h.turn hC hK ⟨v, vr, inv_drop hi y, fun e => e.elim⟩

set_option maxRecDepth 100000 in
set_option maxHeartbeats 3200000 in
theorem fourWhole_law (n0 : Int) (A : Option Addr) (len cap bs off : Nat) (P Q : Nat → Bool) (w : World) (hS : TurnIn w A len bs off P Q) (_ : len ≤ cap) (_ : cap ≤ maxLen) :
    Calls Tryd.prog 3 #[.int .i64 n0, .slice A len cap] w fun e w' => e = .returned (.bool true) ∧ Below w.heap.size w w' := by
  go_enter Tryd.func3, Tryd.ntmps3
  go_wp2_with fail
  refine (lives_any w).mono ?_
  rintro e w1 ⟨rfl, hB1⟩
  go_wp2_with fail
  refine (ctx_new n0 hB1).mono ?_
  rintro e w2 ⟨b, mb, lb, rfl, hB2, hC⟩
  obtain ⟨X, hW0⟩ := wat_new (F := False) hC
  have HW := Lib.hid hW0
  have HS := Lib.hid hS
  clear hS hB1 hB2 hC hW0
  go_wp2
  generalize FS.new (wordsOf n0) = t0 at *
  change Code.wp _ _ _ _ (w2.alloc (.cells (wCells b 0 0 0 0) 28))
  generalize w2.alloc (.cells (wCells b 0 0 0 0) 28) = wL at *
  generalize w2.heap.size = x at *
  go_loopw [6] (fun i wr => ∃ (k : Nat) (s : FS) (begun over low last : Nat), k ≤ len ∧ k ≤ 300 ∧ i = .int .i64 k ∧ WAt False w wr b mb lb x X s begun over low last ∧ begun ≤ k) (fun i _ => len - (intOf i).toNat)
  case atStart => exact ⟨0, t0, 0, 0, 0, 0, Nat.zero_le _, by omega, rfl, HW.out, Nat.le_refl _⟩
  case round =>
    clear HW
    obtain ⟨k, s, begun, over, low, last, hk, hk3, rfl, hW, hbg⟩ := hrel
    have HW := Lib.hid hW
    clear hW
    by_cases hlt : k < len ∧ k < 300
    · obtain ⟨hlt, hlt3⟩ := hlt
      obtain rfl : A = some ⟨bs, off, none⟩ := HS.out.at_.resolve_right (by omega)
      have hSr := HS.out.below HW.out.c.bel
      have s0 := hSr.c0 k hlt
      have s1 := hSr.c1 k hlt
      have k0 := HW.out.k0
      have b1 : (k : Int) < (len : Int) := by omega
      have b2 : (k : Int) < 300 := by omega
      have b0 : (0 : Int) ≤ (k : Int) := by omega
      clear hSr
      cases hq : Q k
      · rw [hq] at s1
        cases hp : P k
        · rw [hp] at s0
          go_wp2_with fail
          refine (turn_r HW.out).mono ?_
          rintro e w3 ⟨v, d, s2, low', rfl, hW3, -, hv⟩
          have k1 := hW3.k1
          have k3 := hW3.k3
          have k4 := hW3.k4
          have k5 := hW3.k5
          have f4 := hW3.k.fr 4
          rcases hv with rfl | ⟨rfl, vo, rfl, h1, h2, h3, h4⟩
          · have HL := Lib.hid hW3
            clear hW3 HW
            go_wp2
            go_round
            case rel => exact ⟨k + 1, s2, begun, over, low', last, by omega, by omega, by go_num, HL.out, by omega⟩
            case measure => simp [intOf]; omega
          · have HL := Lib.hid hW3
            clear h3
            clear hW3 HW h4
            go_wp2
            go_round
            case rel => exact ⟨k + 1, s2, begun, over, low', last, by omega, by omega, by go_num, HL.out, by omega⟩
            case measure => simp [intOf]; omega
        · rw [hp] at s0
          go_wp2_with fail
          refine (turn_w HW.out (by omega)).mono ?_
          rintro e w3 ⟨rfl, s2, begun', over', hb', hW3, -⟩
          have k5 := hW3.k5
          have HL := Lib.hid hW3
          clear hW3 HW
          go_wp2
          go_round
          case rel => exact ⟨k + 1, s2, begun', over', low, last, by omega, by omega, by go_num, HL.out, by omega⟩
          case measure => simp [intOf]; omega
      · rw [hq] at s1
        go_wp2_with fail
        go_still_tail 9, (by kernel_rfl)
        change wpList _ _ _ _ _ wr.drew
        go_wp2_with fail
        have hWd := HW.out.below (Below.refl _ wr).drew
        refine (ctx_drop hWd.c (P k)).mono ?_
        rintro e w3 ⟨rfl, hC3, hK3⟩
        have HL := Lib.hid (wat_drop hWd (P k) hC3 hK3)
        clear hC3 hK3 HW hWd
        generalize s.drop (P k) = s2 at *
        generalize decide (0 < s.left (P k)) = dd at *
        go_wp2
        go_round
        case rel => exact ⟨k + 1, s2, begun, over, low, last, by omega, by omega, by go_num, HL.out, by omega⟩
        case measure => simp [intOf]; omega
    · have hB := Lib.hid HW.out.c.bel
      clear HW
      by_cases h1 : k < len
      · obtain rfl : k = 300 := by omega
        go_wp2
        go_ret
        exact ⟨rfl, hB.out⟩
      · go_wp2
        go_ret
        exact ⟨rfl, hB.out⟩

set_option maxRecDepth 100000 in
set_option maxHeartbeats 3200000 in
theorem fourForward_law (n0 : Int) (A : Option Addr) (len cap bs off : Nat) (P : Nat → Bool) (w : World) (hS : BoolsIn w A len bs off P) (_ : len ≤ cap) (_ : cap ≤ maxLen) :
    Calls Tryd.prog 4 #[.int .i64 n0, .slice A len cap] w fun e w' => e = .returned (.bool true) ∧ Below w.heap.size w w' := by
  go_enter Tryd.func4, Tryd.ntmps4
  go_wp2_with fail
  refine (lives_any w).mono ?_
  rintro e w1 ⟨rfl, hB1⟩
  go_wp2_with fail
  refine (ctx_new n0 hB1).mono ?_
  rintro e w2 ⟨b, mb, lb, rfl, hB2, hC⟩
  obtain ⟨X, hW0⟩ := wat_new (F := True) hC
  have HW := Lib.hid hW0
  have HS := Lib.hid hS
  clear hS hB1 hB2 hC hW0
  go_wp2
  generalize FS.new (wordsOf n0) = t0 at *
  change Code.wp _ _ _ _ (w2.alloc (.cells (wCells b 0 0 0 0) 28))
  generalize w2.alloc (.cells (wCells b 0 0 0 0) 28) = wL at *
  generalize w2.heap.size = x at *
  go_loopw [6] (fun i wr => ∃ (k : Nat) (s : FS) (begun over low last : Nat), k ≤ len ∧ k ≤ 400 ∧ i = .int .i64 k ∧ WAt True w wr b mb lb x X s begun over low last ∧ begun ≤ k) (fun i _ => len - (intOf i).toNat)
  case atStart => exact ⟨0, t0, 0, 0, 0, 0, Nat.zero_le _, by omega, rfl, HW.out, Nat.le_refl _⟩
  case round =>
    clear HW
    obtain ⟨k, s, begun, over, low, last, hk, hk3, rfl, hW, hbg⟩ := hrel
    have HW := Lib.hid hW
    clear hW
    by_cases hlt : k < len ∧ k < 400
    · obtain ⟨hlt, hlt3⟩ := hlt
      obtain rfl : A = some ⟨bs, off, none⟩ := HS.out.at_.resolve_right (by omega)
      have hSr := HS.out.below HW.out.c.bel
      have s0 := hSr.c0 k hlt
      have k0 := HW.out.k0
      have b1 : (k : Int) < (len : Int) := by omega
      have b2 : (k : Int) < 400 := by omega
      have b0 : (0 : Int) ≤ (k : Int) := by omega
      clear hSr
      cases hp : P k
      · rw [hp] at s0
        go_wp2_with fail
        refine (turn_r HW.out).mono ?_
        rintro e w3 ⟨v, d, s2, low', rfl, hW3, -, hv⟩
        have k1 := hW3.k1
        have k3 := hW3.k3
        have k4 := hW3.k4
        have k5 := hW3.k5
        have f4 := hW3.k.fr 4
        rcases hv with rfl | ⟨rfl, vo, rfl, h1, h2, h3, h4⟩
        · have HL := Lib.hid hW3
          clear hW3 HW
          go_wp2
          go_round
          case rel => exact ⟨k + 1, s2, begun, over, low', last, by omega, by omega, by go_num, HL.out, by omega⟩
          case measure => simp [intOf]; omega
        · have HL := Lib.hid (hW3.set 4 (.int .i64 vo) (begun' := begun) (over' := over) (low' := low') (last' := vo) rfl h4)
          have h3' := h3 trivial
          clear h3
          clear hW3 HW h4
          go_wp2
          go_round
          case rel => exact ⟨k + 1, s2, begun, over, low', vo, by omega, by omega, by go_num, HL.out, by omega⟩
          case measure => simp [intOf]; omega
      · rw [hp] at s0
        go_wp2_with fail
        refine (turn_w HW.out (by omega)).mono ?_
        rintro e w3 ⟨rfl, s2, begun', over', hb', hW3, -⟩
        have k5 := hW3.k5
        have HL := Lib.hid hW3
        clear hW3 HW
        go_wp2
        go_round
        case rel => exact ⟨k + 1, s2, begun', over', low, last, by omega, by omega, by go_num, HL.out, by omega⟩
        case measure => simp [intOf]; omega
    · have hB := Lib.hid HW.out.c.bel
      clear HW
      by_cases h1 : k < len
      · obtain rfl : k = 400 := by omega
        go_wp2
        go_ret
        exact ⟨rfl, hB.out⟩
      · go_wp2
        go_ret
        exact ⟨rfl, hB.out⟩
end Go.Proofs.YthpggeiacbdakaaDoor
