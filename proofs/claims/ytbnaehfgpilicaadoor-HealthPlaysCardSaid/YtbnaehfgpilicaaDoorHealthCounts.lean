/- HealthCounts: all counts together are how many were told. -/
import Derived.Test.YtbnaehfgpilicaaDoorHealthLast
namespace Go.Proofs.YtbnaehfgpilicaaDoor
open Go.RowKit

attribute [local go_sem ↓] neqEv same_eta
set_option maxHeartbeats 1600000 in
theorem sameEv_yes {w : World} {v1 v2 : Value} {l : List Ev} (h1 : EvsIn w v1 l) (h2 : EvsIn w v2 l) (hl : l.length ≤ 1073741824) :
    Calls Tryd.prog 19 #[v1, v2] w fun e w' => e = .returned (.bool true) ∧ ∃ n, w' = w.drewN n := by
  obtain ⟨A1, c1, rfl, hc1, k1⟩ := h1
  obtain ⟨A2, c2, rfl, hc2, k2⟩ := h2
  have K1 := Lib.hid k1
  have K2 := Lib.hid k2
  clear k1 k2
  go_enter Tryd.func19, Tryd.ntmps19
  go_wp2
  go_loopw [5] (fun i wr => ∃ k : Nat, k ≤ l.length ∧ i = .int .i64 k ∧ ∃ n, wr = w.drewN n) (fun i _ => l.length - (intOf i).toNat)
  case atStart => exact ⟨0, Nat.zero_le _, rfl, 0, rfl⟩
  case round =>
    obtain ⟨k, hk, rfl, n, rfl⟩ := hrel
    by_cases hlt : k < l.length
    · obtain ⟨g1, o1, rfl, d1⟩ := K1.out (by omega)
      obtain ⟨g2, o2, rfl, d2⟩ := K2.out (by omega)
      have e1 := d1 k hlt
      have e2 := d2 k hlt
      have b0 : (0 : Int) ≤ (k : Int) := by omega
      have b1 : (k : Int) < (l.length : Int) := by omega
      clear d1 d2
      generalize l[k] = x at e1 e2
      obtain ⟨x0, x1, x2, x3, x4⟩ := e1
      obtain ⟨y0, y1, y2, y3, y4⟩ := e2
      go_wp2
      go_quiet (fail)
      go_wp2
      go_roundw
      case rel => exact ⟨k + 1, by omega, by go_num, _, rfl⟩
      case measure => simp [intOf]; omega
    · obtain rfl : k = l.length := by omega
      go_wp2
      go_ret
      exact ⟨rfl, _, rfl⟩
theorem hctx_tell2 {W w : World} {b : Nat} {l : List Ev} (h : HCtx W w b l) (e : Ev) (hl : l.length ≤ 99999) :
    Calls Tryd.prog 16 #[.pointer (some ⟨b, 0, none⟩), .agg e.cells] w fun r w' => r = .returned (.int .i64 (tellE e)) ∧ HCtx W w' b (tellL l e) ∧ (¬ okK e.k → Below w.heap.size w w') := by
  by_cases hk : okK e.k
  · exact (hctx_tell h e hl).mono fun _ _ ⟨hr, hC, _⟩ => ⟨hr, hC, fun hn => absurd hk hn⟩
  · unfold tellE tellL
    rw [if_neg hk, if_neg hk]
    exact (tell_no (some b) e w (.inr hk)).mono fun _ _ ⟨hr, hB⟩ => ⟨hr, h.below hB, fun _ => hB⟩
def sumK (l : List Ev) : Nat → Nat
  | 0 => 0
  | j + 1 => sumK l j + countL l ((j : Int) - 1)
theorem sumK_le (l : List Ev) (j : Nat) : sumK l j ≤ j * l.length := by
  induction j with
  | zero => simp [sumK]
  | succ j ih =>
    have : countL l ((j : Int) - 1) ≤ l.length := by unfold countL; split; exact cntK_le _ _; omega
    simp only [sumK, Nat.add_mul]
    omega
theorem sumK_all (l : List Ev) (h : ∀ e ∈ l, okK e.k) : sumK l 8 = l.length := by
  have := cntK_sum l h
  have e0 : countL l (-1) = 0 := by unfold countL; rw [if_neg (by unfold okK; omega)]
  have e7 : countL l 6 = 0 := by unfold countL; rw [if_neg (by unfold okK; omega)]
  have ek : ∀ k : Int, 0 ≤ k → k < 6 → countL l k = cntK l k := fun k h0 h1 => by unfold countL; rw [if_pos ⟨h0, h1⟩]
  simp only [sumK]
  simp only [show ((0 : Nat) : Int) - 1 = -1 from rfl, show ((1 : Nat) : Int) - 1 = 0 from rfl, show ((2 : Nat) : Int) - 1 = 1 from rfl, show ((3 : Nat) : Int) - 1 = 2 from rfl, show ((4 : Nat) : Int) - 1 = 3 from rfl, show ((5 : Nat) : Int) - 1 = 4 from rfl, show ((6 : Nat) : Int) - 1 = 5 from rfl, show ((7 : Nat) : Int) - 1 = 6 from rfl, e0, e7, ek 0 (by omega) (by omega), ek 1 (by omega) (by omega), ek 2 (by omega) (by omega), ek 3 (by omega) (by omega), ek 4 (by omega) (by omega), ek 5 (by omega) (by omega)]
  omega
set_option maxRecDepth 100000 in
set_option maxHeartbeats 3200000 in
theorem healthCounts_law (A : Option Addr) (len cap : Nat) (L0 : List Ev) (w : World) (hS : EvsIn w (.slice A len cap) L0) (hlc : len ≤ cap) (hcap : cap ≤ maxLen) :
    Calls Tryd.prog 5 #[.slice A len cap] w fun r w' => r = .returned (.bool true) ∧ Below w.heap.size w w' := by
  obtain ⟨m, hm⟩ : ∃ m, m = min len 150 := ⟨_, rfl⟩
  obtain ⟨hI, hIl⟩ := hS.take m (by omega)
  have hm150 : m ≤ 150 := by omega
  have hmc : m ≤ cap := by omega
  generalize L0.take m = L at *
  have HI := Lib.hid hI
  have HIL := Lib.hid hIl
  have HE := Lib.hid (fun W => early_any A len cap W hlc hcap)
  rw [← hm] at HE
  clear hS hI hIl hm hlc hcap
  go_enter Tryd.func5, Tryd.ntmps5
  go_wp2_with fail
  refine (lives_any w).mono ?_
  rintro r w1 ⟨rfl, hB1⟩
  go_wp2_with fail
  refine (hctx_new hB1).mono ?_
  rintro r w2 ⟨rfl, hC⟩
  have HC := Lib.hid hC
  clear hB1 hC
  go_wp2_with fail
  refine (HE.out _).mono ?_
  rintro r w3 ⟨rfl, rfl⟩
  generalize w1.heap.size = b at *
  go_wp2_with fail
  go_loopw [4, 5] (fun s i wr => ∃ (k : Nat) (l : List Ev), k ≤ m ∧ i = .int .i64 k ∧ s = .int .i64 l.length ∧ l.length ≤ k ∧ HCtx w wr b l ∧ (∀ e ∈ l, okK e.k)) (fun _ i _ => m - (intOf i).toNat)
  case atStart => exact ⟨0, [], Nat.zero_le _, rfl, rfl, by simp, HC.out, by simp⟩
  case round =>
    clear HC
    obtain ⟨k, l, hk, rfl, rfl, hlk, hC, hok⟩ := hrel
    have HC := Lib.hid hC
    have HOK := Lib.hid hok
    clear hC hok
    by_cases hlt : k < m
    · have hkL : k < L.length := by rw [HIL.out]; exact hlt
      have b1 : (k : Int) < (m : Int) := by omega
      have b0 : (0 : Int) ≤ (k : Int) := by omega
      have HA := Lib.hid (hctx_all HC.out (by omega))
      go_wp2_with fail
      refine HA.out.mono ?_
      rintro r w4 ⟨v4, rfl, hE4, hC4, -⟩
      obtain ⟨A4, c4, rfl⟩ := hE4.form
      have HE4 := Lib.hid hE4
      have HC4 := Lib.hid hC4
      obtain ⟨bs, off, rfl, -, -, hev⟩ := (HI.out.below hC4.bel).one k hkL
      clear hE4 hC4 HC HA
      generalize L[k] = e at *
      have HLN := Lib.hid (tellL_len l e)
      have HT := Lib.hid (hctx_tell2 HC4.out e (by omega))
      have HOK2 := Lib.hid (tellL_ok HOK.out e)
      obtain ⟨e0, e1, e2, e3, e4⟩ := hev
      unfold Ev.cells at HT
      go_wp2_with fail
      refine HT.out.mono ?_
      rintro r w5 ⟨rfl, hC5, hb5⟩
      have HC5 := Lib.hid hC5
      have HB5 := Lib.hid hb5
      have hlast64 : (lastOf l).length ≤ 64 := by rw [lastOf_len']; omega
      clear hC5 hb5 HC4 HT e0 e1 e2 e3 e4
      go_upto_if 28 with (fail)
      go_cut [4] (fun s wx => s = .int .i64 (tellL l e).length ∧ HCtx w wx b (tellL l e))
      case first =>
        by_cases hk' : okK e.k
        · have hq : (tellE e == 0) = true := by simp [tellE, hk']
          have HT := Lib.hid (show (tellL l e).length = l.length + 1 by unfold tellL; rw [if_pos hk']; simp)
          have hlb : (l.length : Int) ≤ 200 := by omega
          clear hk'
          go_wp2_with fail
          go_meet
          rw [HT.out]
          exact ⟨by go_num, HC5.out⟩
        · have hq : (tellE e == 0) = false := by simp [tellE, hk']
          have hTL : tellL l e = l := if_neg hk'
          have HE5 := Lib.hid (HE4.out.below (HB5.out hk'))
          have HC5' := HC5.out
          rw [hTL] at HC5'
          have HA5 := Lib.hid (hctx_all HC5' (by omega))
          have HTL := Lib.hid hTL
          clear hk' hTL HC5' HC5
          go_wp2_with fail
          refine HA5.out.mono ?_
          rintro r w6 ⟨v6, rfl, hE6, hC6, hb6⟩
          obtain ⟨A6, c6, rfl⟩ := hE6.form
          have HS6 := Lib.hid (sameEv_yes (HE5.out.below hb6) hE6 (by omega))
          have HC6 := Lib.hid hC6
          clear hE6 hC6 hb6
          go_wp2_with fail
          refine HS6.out.mono ?_
          rintro r w7 ⟨rfl, n, rfl⟩
          go_wp2_with fail
          go_meet
          rw [HTL.out]
          exact ⟨rfl, HC6.out.drewN n⟩
      case rest =>
        obtain ⟨rfl, hC⟩ := hcut
        have HC := Lib.hid hC
        clear hC HC5 HB5 HE4
        have hl' : (tellL l e).length ≤ k + 1 := by have := HLN.out; omega
        clear HLN
        generalize tellL l e = l' at *
        go_wp2_with fail
        go_loopw [7, 8] (fun s i wx => ∃ c : Int, -1 ≤ c ∧ c ≤ 7 ∧ i = .int .i64 c ∧ s = .int .i64 (sumK l' (c + 1).toNat) ∧ wx = wc) (fun _ i _ => (7 - intOf i).toNat)
        case atStart => exact ⟨-1, by omega, by omega, rfl, rfl, rfl⟩
        case round =>
          obtain ⟨c, hc0, hc1, rfl, rfl, rfl⟩ := hrel
          by_cases hc7 : c < 7
          · have hc6 : c ≤ 6 := by omega
            have hsl := sumK_le l' (c + 1).toNat
            have hsn : sumK l' (c + 1 + 1).toNat = sumK l' (c + 1).toNat + countL l' c := by
              obtain ⟨j, hj⟩ := Int.eq_ofNat_of_zero_le (show 0 ≤ c + 1 by omega)
              rw [hj, show ((j : Int) + 1).toNat = j + 1 by omega, show ((j : Int)).toNat = j by omega, show c = (j : Int) - 1 by omega]
              rfl
            have HSN := Lib.hid hsn
            have hcl : countL l' c ≤ l'.length := by unfold countL; split; exact cntK_le _ _; omega
            have hsl' : sumK l' (c + 1).toNat ≤ 8 * 200 := Nat.le_trans hsl (Nat.mul_le_mul (by omega) (by omega))
            have HCO := Lib.hid (hctx_count HC.out c)
            generalize sumK l' (c + 1).toNat = sk at *
            generalize countL l' c = ck at *
            clear hsl hsn
            go_wp2_with fail
            refine HCO.out.mono ?_
            rintro r w7 ⟨rfl, rfl⟩
            go_wp2_with fail
            go_roundw
            case rel => exact ⟨c + 1, by omega, by omega, rfl, by rw [HSN.out]; go_num, by first | rfl | trivial⟩
            case measure => simp [intOf]; omega
          · obtain rfl : c = 7 := by omega
            have hs8 : sumK l' ((7 : Int) + 1).toNat = l'.length := sumK_all l' HOK2.out
            rw [hs8]
            obtain ⟨N, hN⟩ : ∃ N, N = l'.length := ⟨_, rfl⟩
            have HN := Lib.hid hN
            obtain ⟨t, ht⟩ : ∃ t, t = (lastOf l').length := ⟨_, rfl⟩
            obtain ⟨g, hg⟩ : ∃ g, g = goneOf l' := ⟨_, rfl⟩
            have htm : t = min l'.length 64 := by rw [ht, lastOf_len']
            have hgt : (g : Int) + (t : Int) = (l'.length : Int) := by rw [hg]; unfold goneOf; omega
            have HGT := Lib.hid hgt
            have HTO := Lib.hid (told_any HC.out.at_)
            have HGO := Lib.hid (fun (w' : World) (h : LogAt w' b l') => gone_any h (by omega))
            rw [← hg] at HGO
            have HAL := Lib.hid (fun (w' : World) (h : HCtx w w' b l') => hctx_all h (by omega))
            have HT := Lib.hid ht
            have hlb : (l'.length : Int) ≤ 200 := by omega
            rw [← hN] at HTO hlb htm HGT ⊢
            clear hg hgt ht hs8 hc0 hc1 hc7 hN
            have hN200 : N ≤ 200 := by omega
            by_cases h64 : N ≤ 64
            · obtain rfl : t = N := by omega
              have h64' : min (t : Int) 64 = (t : Int) := by omega
              obtain rfl : g = 0 := by have := HGT.out; omega
              clear HGT
              clear htm h64
              go_wp2_with fail
              refine HTO.out.mono ?_
              rintro r w7 ⟨rfl, rfl⟩
              go_wp2_with fail
              refine (HAL.out _ HC.out).mono ?_
              rintro r w8 ⟨v8, rfl, hE8, hC8, -⟩
              obtain ⟨A8, c8, rfl⟩ := hE8.form
              rw [← HT.out]
              have HC8 := Lib.hid hC8
              clear hE8 hC8
              go_wp2_with fail
              refine (HGO.out _ HC8.out.at_).mono ?_
              rintro r w9 ⟨rfl, rfl⟩
              go_wp2_with fail
              refine (HAL.out _ HC8.out).mono ?_
              rintro r w9 ⟨v9, rfl, hE9, hC9, -⟩
              obtain ⟨A9, c9, rfl⟩ := hE9.form
              rw [← HT.out]
              have HC9 := Lib.hid hC9
              clear hE9 hC9
              go_wp2_with fail
              go_roundw
              case rel => exact ⟨k + 1, l', by omega, by go_num, by rw [← HN.out], hl', HC9.out, HOK2.out⟩
              case measure => simp [intOf]; omega
            · obtain rfl : t = 64 := by omega
              have h64' : min (N : Int) 64 = 64 := by omega
              have hgb : (g : Int) ≤ 200 := by have := HGT.out; omega
              clear htm h64
              go_wp2_with fail
              refine HTO.out.mono ?_
              rintro r w7 ⟨rfl, rfl⟩
              go_wp2_with fail
              refine (HAL.out _ HC.out).mono ?_
              rintro r w8 ⟨v8, rfl, hE8, hC8, -⟩
              obtain ⟨A8, c8, rfl⟩ := hE8.form
              rw [← HT.out]
              have HC8 := Lib.hid hC8
              clear hE8 hC8
              go_wp2_with fail
              refine (HGO.out _ HC8.out.at_).mono ?_
              rintro r w9 ⟨rfl, rfl⟩
              go_wp2_with fail
              refine (HAL.out _ HC8.out).mono ?_
              rintro r w9 ⟨v9, rfl, hE9, hC9, -⟩
              obtain ⟨A9, c9, rfl⟩ := hE9.form
              rw [← HT.out]
              have HC9 := Lib.hid hC9
              clear hE9 hC9
              have hgt := HGT.out
              go_wp2_with fail
              go_roundw
              case rel => exact ⟨k + 1, l', by omega, by go_num, by rw [← HN.out], hl', HC9.out, HOK2.out⟩
              case measure => simp [intOf]; omega
    · obtain rfl : k = m := by omega
      have b1 : ¬ (k : Int) < (k : Int) := by omega
      go_wp2_with fail
      go_ret
      exact ⟨rfl, HC.out.bel⟩
end Go.Proofs.YtbnaehfgpilicaaDoor
