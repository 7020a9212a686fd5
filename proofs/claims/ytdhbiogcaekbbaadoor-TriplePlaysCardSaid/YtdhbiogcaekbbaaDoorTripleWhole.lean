/- TripleWhole: the walk. -/
import Derived.Test.YtdhbiogcaekbbaaDoorTripleM
namespace Go.Proofs.YtdhbiogcaekbbaaDoor
open Go.RowKit

/-- Turns that came in: their cells. -/
structure TurnIn (w : World) (A : Option Addr) (n : Nat) (bs off : Nat) (P Q : Nat → Bool) : Prop where
  at_ : A = some ⟨bs, off, none⟩ ∨ n = 0
  c0 : ∀ i, i < n → w.cell? ⟨bs, off + i * 2, none⟩ = some (.bool (P i))
  c1 : ∀ i, i < n → w.cell? ⟨bs, off + i * 2 + 1, none⟩ = some (.bool (Q i))
theorem TurnIn.below {w w' : World} {A : Option Addr} {n bs off : Nat} {P Q : Nat → Bool} (h : TurnIn w A n bs off P Q) (hb : Below w.heap.size w w') : TurnIn w' A n bs off P Q :=
  ⟨h.at_, fun i hi => (hb.cell (World.block_lt_of_cell? _ _ (h.c0 i hi))).trans (h.c0 i hi), fun i hi => (hb.cell (World.block_lt_of_cell? _ _ (h.c1 i hi))).trans (h.c1 i hi)⟩
theorem wat_new {W w : World} {b mb lb n x : Nat} (hc : Ctx W w b mb lb (TS.newx n x)) (hk : Blk w x 28 (wCells b 0 0 0 0)) (hx : W.heap.size ≤ x) (hr : ¬ regS b mb lb x) : WAt W w b mb lb (TS.newx n x) 0 0 0 0 :=
  ⟨hc, hk, hx, hr, inv_new n x⟩

set_option maxRecDepth 100000 in
set_option maxHeartbeats 3200000 in
theorem tripleWhole_walk (n0 : Int) (A : Option Addr) (len cap bs off : Nat) (P Q : Nat → Bool) (w : World) (hS : TurnIn w A len bs off P Q) :
    Calls Tryd.prog 3 #[.int .i64 n0, .slice A len cap] w fun e w' => e = .returned (.bool true) ∧ Below w.heap.size w w' := by
  go_enter Tryd.func3, Tryd.ntmps3
  go_wp2_with fail
  refine (lives_any w).mono ?_
  rintro e w1 ⟨rfl, hB1⟩
  go_wp2_with fail
  refine (ctx_new n0 hB1).mono ?_
  rintro e w2 ⟨b, mb, lb, rfl, hB2, g1, g2, g3, l1, l2, l3, hC⟩
  have hs1 := hB1.size
  have HW := Lib.hid (show WAt w (w2.alloc (.cells (wCells b 0 0 0 0) 28)) b mb lb (TS.newx (wordsOf n0) w2.heap.size) 0 0 0 0 from
    wat_new (hC w2.heap.size _ (below_alloc (Nat.le_refl _) _) (by simp)) (Blk.new w2 28 (wCells b 0 0 0 0)) (by omega) (by unfold regS; omega))
  have HXE := Lib.hid (show (TS.newx (wordsOf n0) w2.heap.size).x = w2.heap.size from rfl)
  clear hB1 hB2 g1 g2 g3 l1 l2 l3 hC hs1
  have HS := Lib.hid hS
  clear hS
  go_wp2
  generalize TS.newx (wordsOf n0) w2.heap.size = t0 at *
  change Code.wp _ _ _ _ (w2.alloc (.cells (wCells b 0 0 0 0) 28))
  generalize w2.alloc (.cells (wCells b 0 0 0 0) 28) = wL at *
  generalize w2.heap.size = x at *
  go_loopw [6] (fun i wr => ∃ (k : Nat) (s : TS) (begun over low last : Nat), k ≤ len ∧ k ≤ 300 ∧ i = .int .i64 k ∧ WAt w wr b mb lb s begun over low last ∧ s.x = x ∧ begun ≤ k) (fun i _ => len - (intOf i).toNat)
  case atStart => exact ⟨0, t0, 0, 0, 0, 0, Nat.zero_le _, by omega, rfl, HW.out, HXE.out, Nat.le_refl _⟩
  case round =>
    clear HW HXE
    obtain ⟨k, s, begun, over, low, last, hk, hk3, rfl, hW, rfl, hbg⟩ := hrel
    have HW := Lib.hid hW
    clear hW
    by_cases hlt : k < len ∧ k < 300
    · obtain ⟨hlt, hlt3⟩ := hlt
      obtain rfl : A = some ⟨bs, off, none⟩ := HS.out.at_.resolve_right (by omega)
      have hSr := HS.out.below HW.out.c.bel
      have s0 := hSr.c0 k hlt
      have s1 := hSr.c1 k hlt
      have k0 := HW.out.k0
      have b1 : (k : Int) < (len : Int) := by omega
      have b2 : (k : Int) < 300 := by omega
      have b0 : (0 : Int) ≤ (k : Int) := by omega
      clear hSr
      cases hq : Q k
      · rw [hq] at s1
        cases hp : P k
        · rw [hp] at s0
          go_wp2_with fail
          refine (wr_any HW.out).mono ?_
          rintro e w3 ⟨v, s2, low', rfl, hW3, hx3, _, hv⟩
          have k2 := hW3.k2
          have k3 := hW3.k3
          have k4 := hW3.k4
          have k5 := hW3.k5
          have f4 := hW3.k.fr 4
          rw [hx3] at k2 k3 k4 k5 f4
          rcases hv with rfl | ⟨vo, rfl, h1, h2, h3, h4⟩
          · have hlast := hW3.set 4 (.int .i64 last) rfl hW3.inv
            rw [hx3] at hlast
            have HL := Lib.hid hlast
            have HX := Lib.hid hx3
            clear hW3 hx3 hlast HW
            go_wp2
            go_round
            case rel => exact ⟨k + 1, s2, begun, over, low', last, by omega, by omega, by go_num, HL.out, HX.out, by omega⟩
            case measure => simp [intOf]; omega
          · have hlast := hW3.set 4 (.int .i64 vo) (begun' := begun) (over' := over) (low' := low') (last' := vo) rfl h4
            rw [hx3] at hlast
            have HL := Lib.hid hlast
            have HX := Lib.hid hx3
            clear hW3 hx3 hlast HW h4
            go_wp2
            go_round
            case rel =>
              refine ⟨k + 1, s2, begun, over, low', vo, by omega, by omega, by go_num, ?_, HX.out, by omega⟩
              have hh := HL.out
              split
              · exact hh
              · rw [show (last : Int) = (vo : Int) by omega]
                exact hh
            case measure => simp [intOf]; omega
        · rw [hp] at s0
          go_wp2_with fail
          refine (ww_any HW.out (by omega)).mono ?_
          rintro e w3 ⟨rfl, s2, begun', over', hb', hW3, hx3, _⟩
          have k5 := hW3.k5
          rw [hx3] at k5
          have HW3 := Lib.hid hW3
          have HX := Lib.hid hx3
          clear hW3 hx3 HW
          go_wp2
          go_round
          case rel => exact ⟨k + 1, s2, begun', over', low, last, by omega, by omega, by go_num, HW3.out, HX.out, by omega⟩
          case measure => simp [intOf]; omega
      · rw [hq] at s1
        go_wp2_with fail
        go_still_tail 9, (by kernel_rfl)
        change wpList _ _ _ _ _ wr.drew
        go_wp2_with fail
        refine (ctx_drop HW.out.c.drew (P k)).mono ?_
        rintro e w3 ⟨rfl, hC3, hO3⟩
        have HW3 := Lib.hid ((HW.out.below (Below.refl _ wr).drew).onl hO3 hC3 (drop_x s _).1 (HW.out.k.drew) (inv_drop HW.out.inv _))
        have HX := Lib.hid (drop_x s (P k)).1
        clear hC3 hO3 HW
        generalize (s.drop (P k)).1 = s2 at *
        generalize (s.drop (P k)).2 = dd at *
        go_wp2
        go_round
        case rel => exact ⟨k + 1, s2, begun, over, low, last, by omega, by omega, by go_num, HW3.out, HX.out, by omega⟩
        case measure => simp [intOf]; omega
    · have hB := Lib.hid HW.out.c.bel
      clear HW
      by_cases h1 : k < len
      · obtain rfl : k = 300 := by omega
        go_wp2
        go_ret
        exact ⟨rfl, hB.out⟩
      · go_wp2
        go_ret
        exact ⟨rfl, hB.out⟩
end Go.Proofs.YtdhbiogcaekbbaaDoor
