/- TripleThree: the walk. -/
import Derived.Test.YtdhbiogcaekbbaaDoorTripleOpen
namespace Go.Proofs.YtdhbiogcaekbbaaDoor
open Go.RowKit

theorem ctx_cells {W w : World} {b mb lb : Nat} {s : TS} (h : Ctx W w b mb lb s) :
    Calls Tryd.prog 29 #[.pointer (some ⟨b, 0, none⟩)] w fun e w' => ∃ v, e = .returned v ∧ IntsIn w' v s.mem ∧ Below w.heap.size w w' := by
  obtain ⟨vi, vo, c, hT⟩ := h.at_
  exact (cells_any hT).mono fun e w' ⟨v, he, ho, hb⟩ => ⟨v, he, IntsIn.of_own ho rfl, hb⟩
theorem own_q {W w : World} {b mb lb : Nat} {s : TS} (h : Ctx W w b mb lb s) (x : Bool) :
    Calls Tryd.prog 28 #[.pointer (some ⟨b, 0, none⟩), .bool x] w fun e w' => e = .returned (.int .i64 (s.own x)) ∧ w' = w :=
  (ctx_own h x).mono fun _ _ ⟨he, hw⟩ => ⟨he, hw.symm⟩

set_option maxRecDepth 100000 in
set_option maxHeartbeats 3200000 in
theorem tripleThree_law (n0 : Int) (A : Option Addr) (len cap bs off : Nat) (P Q : Nat → Bool) (w : World) (hS : TurnIn w A len bs off P Q) (_ : len ≤ cap) (_ : cap ≤ maxLen) :
    Calls Tryd.prog 7 #[.int .i64 n0, .slice A len cap] w fun e w' => e = .returned (.bool true) ∧ Below w.heap.size w w' := by
  go_enter Tryd.func7, Tryd.ntmps7
  go_wp2_with fail
  refine (lives_any w).mono ?_
  rintro e w1 ⟨rfl, hB1⟩
  go_wp2_with fail
  refine (ctx_new n0 hB1).mono ?_
  rintro e w2 ⟨b, mb, lb, rfl, hB2, g1, g2, g3, l1, l2, l3, hC⟩
  have hs1 := hB1.size
  have HW := Lib.hid (show WAt w (w2.alloc (.cells (wCells b 0 0 0 0) 28)) b mb lb (TS.newx (wordsOf n0) w2.heap.size) 0 0 0 0 from
    wat_new (hC w2.heap.size _ (below_alloc (Nat.le_refl _) _) (by simp)) (Blk.new w2 28 (wCells b 0 0 0 0)) (by omega) (by unfold regS; omega))
  have HXE := Lib.hid (show (TS.newx (wordsOf n0) w2.heap.size).x = w2.heap.size from rfl)
  clear hB1 hB2 g1 g2 g3 l1 l2 l3 hC hs1
  have HS := Lib.hid hS
  clear hS
  go_wp2
  generalize TS.newx (wordsOf n0) w2.heap.size = t0 at *
  change Code.wp _ _ _ _ (w2.alloc (.cells (wCells b 0 0 0 0) 28))
  generalize w2.alloc (.cells (wCells b 0 0 0 0) 28) = wL at *
  generalize w2.heap.size = x at *
  go_loopw [6] (fun i wr => ∃ (k : Nat) (s : TS) (begun over low last : Nat), k ≤ len ∧ k ≤ 200 ∧ i = .int .i64 k ∧ WAt w wr b mb lb s begun over low last ∧ s.x = x ∧ begun ≤ k) (fun i _ => len - (intOf i).toNat)
  case atStart => exact ⟨0, t0, 0, 0, 0, 0, Nat.zero_le _, by omega, rfl, HW.out, HXE.out, Nat.le_refl _⟩
  case round =>
    clear HW HXE
    obtain ⟨k, s, begun, over, low, last, hk, hk3, rfl, hW, rfl, hbg⟩ := hrel
    have HW := Lib.hid hW
    clear hW
    by_cases hlt : k < len ∧ k < 200
    · obtain ⟨hlt, hlt3⟩ := hlt
      obtain rfl : A = some ⟨bs, off, none⟩ := HS.out.at_.resolve_right (by omega)
      have hSr := HS.out.below HW.out.c.bel
      have s0 := hSr.c0 k hlt
      have s1 := hSr.c1 k hlt
      have k0 := HW.out.k0
      have b1 : (k : Int) < (len : Int) := by omega
      have b2 : (k : Int) < 200 := by omega
      have b0 : (0 : Int) ≤ (k : Int) := by omega
      clear hSr
      go_upto_block 2 with (fail)
      go_cut [] (fun wx => ∃ (s2 : TS) (begun over low last : Nat), WAt w wx b mb lb s2 begun over low last ∧ s2.x = s.x ∧ begun ≤ k + 1)
      case first =>
        cases hq : Q k
        · rw [hq] at s1
          cases hp : P k
          · rw [hp] at s0
            go_wp2_with fail
            refine (wr_any HW.out).mono ?_
            rintro e w3 ⟨v, s2, low', rfl, hW3, hx3, -, -⟩
            have HW3 := Lib.hid (And.intro hW3 hx3)
            clear hW3 hx3 HW
            go_wp2_with fail
            go_meet
            exact ⟨_, _, _, _, _, HW3.out.1, HW3.out.2, by omega⟩
          · rw [hp] at s0
            go_wp2_with fail
            refine (ww_any HW.out (by omega)).mono ?_
            rintro e w3 ⟨rfl, s2, begun', over', hb', hW3, hx3, -⟩
            have HW3 := Lib.hid (And.intro hW3 hx3)
            clear hW3 hx3 HW
            go_wp2_with fail
            go_meet
            exact ⟨_, _, _, _, _, HW3.out.1, HW3.out.2, by omega⟩
        · rw [hq] at s1
          go_wp2_with fail
          go_still_tail 9, (by kernel_rfl)
          change wpList _ _ _ _ _ wr.drew
          go_wp2_with fail
          refine (ctx_drop HW.out.c.drew (P k)).mono ?_
          rintro e w3 ⟨rfl, hC3, hO3⟩
          have HW3 := Lib.hid ((HW.out.below (Below.refl _ wr).drew).onl hO3 hC3 (drop_x s _).1 (HW.out.k.drew) (inv_drop HW.out.inv _))
          have HX := Lib.hid (drop_x s (P k)).1
          clear hC3 hO3 HW
          generalize (s.drop (P k)).1 = s2 at *
          generalize (s.drop (P k)).2 = dd at *
          go_wp2_with fail
          go_meet
          exact ⟨_, _, _, _, _, HW3.out, HX.out, by omega⟩
      case rest =>
        obtain ⟨s2, begun', over', low', last', hW2, hx2, hb2⟩ := hcut
        have k0 := hW2.k0
        rw [hx2] at k0
        have HW2 := Lib.hid hW2
        have HX2 := Lib.hid hx2
        have HCE := Lib.hid (ctx_cells hW2.c)
        clear hW2 hx2 HW s0 s1
        go_wp2_with fail
        refine HCE.out.mono ?_
        rintro e w3 ⟨v, rfl, hi, hb⟩
        have hm := ok_mid HW2.out.c.fine.ok
        have hml : 1 ≤ s2.mem.length := by rw [HW2.out.c.fine.ok.len]; omega
        obtain ⟨A', c', rfl, hlc, hcells⟩ := hi
        obtain ⟨g, o, rfl, hcell⟩ := hcells (by omega)
        have c0 := hcell 0 (by omega)
        rw [List.getElem?_eq_getElem (by omega)] at hm
        have hm0 := Option.some.inj hm.1
        rw [hm0, Nat.add_zero] at c0
        have HW3 := Lib.hid (HW2.out.below hb)
        have k0 := HW3.out.k0
        have k5 := HW3.out.k5
        rw [HX2.out] at k0 k5
        have hio := HW2.out.c.fine.ok.io
        have hoo := HW2.out.c.fine.ok.oo
        have p1 := HW2.out.inv.p1
        have p2 := HW2.out.inv.p2
        have p3 := HW2.out.inv.p3
        have hm6 := hm.2.1
        have hm4 := hm.2.2
        clear hm hm0 hcell hcells hb HCE HW2
        generalize s2.mem.length = nl at *
        have hln : ((nl : Int) == 0) = false := by simp; omega
        have hlp : (0 : Int) < (nl : Int) := by omega
        go_wp2_with fail
        go_quiet ((go_at_call 28; exact Calls.quiet_of_same (own_q (HW3.out.c.drewN _) _)))
        have ho1 : s2.own true = s2.io := rfl
        have ho2 : s2.own false = s2.oo := rfl
        rw [ho1, ho2]
        have q1 : ((s2.io : Int) == (s2.oo : Int)) = false := by simp; omega
        have q2 : ((s2.io : Int) == (s2.mid : Int) % 4) = false := by simp; omega
        have q3 : ((s2.oo : Int) == (s2.mid : Int) % 4) = false := by simp; omega
        go_wp2
        go_round
        case rel => exact ⟨k + 1, s2, begun', over', low', last', by omega, by omega, by go_num, HW3.out.below (below_drewN' _ _), HX2.out, by omega⟩
        case measure => simp [intOf]; omega
    · have hB := Lib.hid HW.out.c.bel
      clear HW
      by_cases h1 : k < len
      · obtain rfl : k = 200 := by omega
        go_wp2
        go_ret
        exact ⟨rfl, hB.out⟩
      · go_wp2
        go_ret
        exact ⟨rfl, hB.out⟩
end Go.Proofs.YtdhbiogcaekbbaaDoor
