/- PoolTurns: the walk. -/
import Derived.Test.YtjmhdkcnllnekaaPoolLaw
import Derived.Deep.DeepCutAuto
namespace Go.Proofs.Ytjmhdkcnllnekaa
open Go.RowKit

def sumTo (p : PS) : Nat → Int
  | 0 => 0
  | k + 1 => sumTo p k + p.tu k
theorem sumTo_bd {p : PS} {N : Nat} (h : p.tuLe N) (k : Nat) : 0 ≤ sumTo p k ∧ sumTo p k ≤ (k * N : Nat) := by
  induction k with
  | zero => simp [sumTo]
  | succ k ih =>
    have h1 := h k
    have e : ((k + 1) * N : Nat) = k * N + N := by rw [Nat.add_mul, Nat.one_mul]
    simp only [sumTo]
    rw [e]
    omega
theorem sumTo_up (p : PS) (t : Bool) (o : Int) (i k : Nat) : sumTo ((p.set i t o).up i) k = sumTo p k + if i < k then 1 else 0 := by
  induction k with
  | zero => simp [sumTo]
  | succ k ih =>
    simp only [sumTo, ih]
    have e : ((p.set i t o).up i).tu k = p.tu k + if k = i then 1 else 0 := by
      simp only [PS.up, PS.set]; split <;> simp
    rw [e]
    split <;> split <;> split <;> omega
theorem sumTo_give (p : PS) (i o : Int) (k : Nat) : sumTo (p.give i o).1 k = sumTo p k := by
  induction k with
  | zero => rfl
  | succ k ih => simp only [sumTo, ih, give_tu]

set_option maxRecDepth 100000 in
set_option maxHeartbeats 1600000 in
theorem poolTurns_walk (n0 : Int) (A : Option Addr) (len cap bs off : Nat) (K S O : Nat → Int) (w : World) (hS : Script w A len bs off K S O) (hlc : len ≤ cap) (hcap : cap ≤ maxLen) :
    Calls Try.prog 3 #[.int .i64 n0, .slice A len cap] w fun e w' => e = .returned (.bool true) ∧ Below w.heap.size w w' := by
  go_enter Try.func3, Try.ntmps3
  go_wp2_with fail
  refine (lives_any w).mono ?_
  rintro e w1 ⟨rfl, hB1⟩
  go_wp2_with fail
  refine (ctx_new n0 hB1).mono ?_
  rintro e w2 ⟨rfl, C2⟩
  generalize w1.heap.size = b at *
  go_wp2_with fail
  refine (early_any A len cap w2 hlc hcap).mono ?_
  rintro e w3 ⟨rfl, rfl⟩
  have hn := slotsOf_le n0
  generalize slotsOf n0 = m at *
  have hS' := Lib.hid (hS.less (m := min len 80) (by omega))
  have hm : min len 80 ≤ 80 := by omega
  have hmc : min len 80 ≤ cap := by omega
  unfold maxLen at hcap
  generalize min len 80 = L at *
  have C2' := Lib.hid C2
  clear hS C2 hB1 hlc
  go_wp2
  go_loopw [6, 7] (fun n i wr => ∃ (k c : Nat) (p : PS), k ≤ L ∧ i = .int .i64 k ∧ n = .int .i64 c ∧ c ≤ k ∧ Ctx w wr b p ∧ p.tuLe k ∧ p.n = m ∧ sumTo p m = c) (fun _ i _ => L - (intOf i).toNat)
  case atStart => exact ⟨0, 0, PS.new m, Nat.zero_le _, rfl, rfl, Nat.le_refl _, C2'.out, tuLe_new _ _, rfl, by
    have := sumTo_bd (tuLe_new m 0) m
    simp at this
    omega⟩
  case round =>
    obtain ⟨k, c, p, hk, rfl, rfl, hck, hC, ht, hpn, hsum⟩ := hrel
    have HC := Lib.hid hC
    have HT := Lib.hid ht
    have HN := Lib.hid hpn
    have HSUM := Lib.hid hsum
    clear hC ht hpn hsum
    by_cases hlt : k < L
    · obtain rfl : A = some ⟨bs, off, none⟩ := hS'.out.at_.resolve_right (by omega)
      have hSr := hS'.out.below HC.out.bel
      have s2 := hSr.c2 k hlt
      clear hSr
      go_wp2_with fail
      refine (ctx_take HC.out (O k) HT.out (by omega)).mono ?_
      rintro e w4 ⟨rfl, hC4⟩
      have HC4 := Lib.hid hC4
      clear hC4
      have HT4 := Lib.hid (tuLe_take HT.out (O k))
      have HN4 := Lib.hid ((take_n p (O k)).trans HN.out)
      go_upto_if 35 with (fail)
      go_cut [6, 8, 9] (fun n _ _ wx => ∃ c' : Nat, n = .int .i64 c' ∧ c' ≤ k + 1 ∧ sumTo (p.take (O k)).1 m = c' ∧ wx = w4)
      case first =>
        rcases hf : freeOf p with _ | ⟨i0, rest⟩
        · have e1 : p.take (O k) = (p, -1, 10) := by unfold PS.take; rw [hf]
          have hr := Lib.hid (show sumTo (p.take (O k)).1 m = c by rw [e1]; exact HSUM.out)
          have e2 : (p.take (O k)).2.1 = -1 := by rw [e1]
          have e3 : (p.take (O k)).2.2 = 10 := by rw [e1]
          clear e1 hf
          rw [e2, e3]
          go_wp2_with (fail)
          go_meet
          exact ⟨c, rfl, by omega, hr.out, rfl⟩
        · have e1 : p.take (O k) = ((p.set i0 true (O k)).up i0, (i0 : Int), 0) := by unfold PS.take; rw [hf]
          have hi0 : i0 < p.n := findTo_lt p false 0 p.n i0 (by rw [show findTo p false 0 p.n = i0 :: rest from hf]; simp)
          have hr := Lib.hid (show sumTo (p.take (O k)).1 m = (c + 1 : Nat) by
            rw [e1, sumTo_up, HSUM.out, if_pos (by have := HN.out; omega)]; omega)
          have e2 : (p.take (O k)).2.1 = i0 := by rw [e1]
          have e3 : (p.take (O k)).2.2 = 0 := by rw [e1]
          have e4 := Lib.hid (show (p.take (O k)).1.turn i0 = p.tu i0 + 1 by
            rw [e1]; unfold PS.turn; rw [if_neg (by simp [PS.up, PS.set]; omega)]; simp [PS.up, PS.set])
          have e5 : 0 ≤ p.tu i0 := (HT.out i0).1
          clear e1 hf hi0
          rw [e2, e3]
          clear e2 e3
          go_wp2_with (fail)
          refine (ctx_turn_eq HC4.out i0 e4.out).mono ?_
          rintro e w5 ⟨rfl, rfl⟩
          go_wp2_with (fail)
          go_meet
          exact ⟨c + 1, rfl, by omega, hr.out, rfl⟩
      case rest =>
        obtain ⟨c', rfl, hc', hsum', rfl⟩ := hcut
        have hSr := hS'.out.below HC4.out.bel
        have s0 := hSr.c0 k hlt
        have s1 := hSr.c1 k hlt
        have s2' := hSr.c2 k hlt
        obtain ⟨k0, k1⟩ := hSr.bk k hlt
        clear hSr
        have HS5 := Lib.hid hsum'
        clear hsum'
        go_wp2_with (fail)
        refine (kind_any (K k) (S k) (O k) _ k0 k1).mono ?_
        rintro e w5 ⟨rfl, hB5⟩
        have HC5 := Lib.hid (HC4.out.below hB5)
        have t0 := (hB5.cell (p := ⟨bs, off + k * 3, none⟩) (World.block_lt_of_cell? _ _ s0)).trans s0
        have t1 := (hB5.cell (p := ⟨bs, off + k * 3 + 1, none⟩) (World.block_lt_of_cell? _ _ s1)).trans s1
        have t2 := (hB5.cell (p := ⟨bs, off + k * 3 + 2, none⟩) (World.block_lt_of_cell? _ _ s2')).trans s2'
        clear hB5 s0 s1 s2' s2 k0 k1
        go_upto_if 47 with (fail)
        go_cut [] (fun wx => ∃ p2 : PS, Ctx w wx b p2 ∧ p2.tuLe (k + 1) ∧ p2.n = m ∧ sumTo p2 m = c')
        case first =>
          by_cases hkd : 1 < kindOf (K k)
          · go_wp2_with (fail)
            go_still_tail 11, (by kernel_rfl)
            change wpList _ _ _ _ _ w5.drew
            go_wp2_with (fail)
            refine (ctx_give (HC5.out.drewN 1) (S k) (O k)).mono ?_
            rintro e w6 ⟨rfl, hC6⟩
            go_wp2_with (fail)
            go_meet
            exact ⟨_, hC6, tuLe_give HT4.out _ _, (give_n _ _ _).trans HN4.out, (sumTo_give _ _ _ _).trans HS5.out⟩
          · go_wp2_with (fail)
            go_meet
            exact ⟨_, HC5.out, HT4.out, HN4.out, HS5.out⟩
        case rest =>
          obtain ⟨p2, hC6, hT6, hN6, hS6⟩ := hcut
          have HC6 := Lib.hid hC6
          have HT6 := Lib.hid hT6
          have HN6 := Lib.hid hN6
          have HS6 := Lib.hid hS6
          clear hC6 hT6 hN6 hS6 HC HT HN HSUM HC4 HT4 HN4 HS5 HC5 t0 t1 t2
          go_wp2
          go_loop [10, 11] (fun s j => ∃ i : Nat, i ≤ m ∧ j = .int .i64 i ∧ s = .int .i64 (sumTo p2 i)) (fun _ j => m - (intOf j).toNat)
          case atStart => exact ⟨0, Nat.zero_le _, rfl, rfl⟩
          case round =>
            obtain ⟨i, hi, rfl, rfl⟩ := hrel
            by_cases hlt2 : i < m
            · have hb := HT6.out i
              have hb1 := hb.1
              have hb2 := hb.2
              have hsb := sumTo_bd HT6.out i
              have hsb1 := hsb.1
              have hsb2 := hsb.2
              have hmul : i * (k + 1) ≤ 64 * 81 := Nat.mul_le_mul (by omega) (by omega)
              have htu := Lib.hid (turn_lt p2 i (by rw [HN6.out]; exact hlt2))
              have hup : sumTo p2 i ≤ 5184 := by omega
              clear hb hsb hsb2 hmul
              go_wp2_with (fail)
              refine (ctx_len HC6.out HN6.out).mono ?_
              rintro e w7 ⟨rfl, rfl⟩
              go_wp2_with (fail)
              refine (ctx_turn_eq HC6.out i htu.out).mono ?_
              rintro e w7 ⟨rfl, rfl⟩
              go_wp2
              go_round
              case rel => exact ⟨i + 1, by omega, by go_num, rfl⟩
              case measure => simp [intOf]; omega
            · obtain rfl : i = m := by omega
              rw [HS6.out]
              go_wp2_with (fail)
              refine (ctx_len HC6.out HN6.out).mono ?_
              rintro e w7 ⟨rfl, rfl⟩
              go_wp2_with (fail)
              refine (ctx_turn_eq HC6.out (-1) (turn_no p2 (-1) (by omega))).mono ?_
              rintro e w7 ⟨rfl, rfl⟩
              go_wp2_with (fail)
              refine (ctx_len HC6.out HN6.out).mono ?_
              rintro e w7 ⟨rfl, rfl⟩
              go_wp2_with (fail)
              refine (ctx_turn_eq HC6.out i (turn_no p2 i (by rw [HN6.out]; omega))).mono ?_
              rintro e w7 ⟨rfl, rfl⟩
              go_wp2
              go_roundw
              case rel => exact ⟨k + 1, c', p2, by omega, by go_num, rfl, by omega, HC6.out, HT6.out, HN6.out, HS6.out⟩
              case measure => simp [intOf]; omega
    · obtain rfl : k = L := by omega
      go_wp2
      go_ret
      exact ⟨rfl, HC.out.bel⟩
end Go.Proofs.Ytjmhdkcnllnekaa
