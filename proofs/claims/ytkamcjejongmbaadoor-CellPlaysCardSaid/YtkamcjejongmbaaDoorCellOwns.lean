/- CellOwns: what is told hangs on no memory. -/
import Derived.Test.YtkamcjejongmbaaDoorCellOpens
namespace Go.Proofs.YtkamcjejongmbaaDoor
open Go.RowKit

theorem ownsRow_onl {w w' : World} {base g : Nat} {e : TypeId} {size n : Nat} {v : Value} {xs : List Value} (h : w.ownsRow base e size v n xs) (hO : Only (fun j => j = g) w w') (hg : g < base) : w'.ownsRow base e size v n xs :=
  h.kept (row := some g) ⟨hO.os, hO.tape, hO.output, hO.size, fun k hk hne => hO.block k hk (fun e => hne (by rw [e]))⟩ (by
    cases hv : v.ownBlock with
    | none => exact .inl rfl
    | some k => exact .inr (fun e => by injection e with e; have := (h.lt k hv).1; omega))
theorem mod_nat (c : Int) (m : Nat) (hm : 0 < m ∧ m ≤ 2147483648) : ∃ n : Nat, n < m ∧ wrap64 ((IntKind.u64.wrap c).tmod m) = (n : Int) := by
  rw [IntKind.wrap_u64, Int.tmod_eq_emod_of_nonneg (by omega)]
  have h1 := Int.emod_nonneg (c % 18446744073709551616) (show (m : Int) ≠ 0 by omega)
  have h2 := Int.emod_lt_of_pos (c % 18446744073709551616) (show 0 < (m : Int) by omega)
  generalize (c % 18446744073709551616) % (m : Int) = z at *
  exact ⟨z.toNat, by omega, by unfold wrap64; omega⟩
set_option maxRecDepth 100000 in
set_option maxHeartbeats 1600000 in
theorem law_cellOwns (c i v : Int) {w : World} (hE : ErrT w) :
    Calls Tryd.prog 5 #[.int .i64 c, .int .i64 i, .int .i64 v] w fun r w' => r = .returned (.bool true) ∧ Below w.heap.size w w' := by
  have HL := Lib.hid (lives_any hE (Below.refl _ w))
  obtain ⟨n, hn, hz⟩ := mod_nat c 41 (by omega)
  have HN := Lib.hid (show ∀ w1, Below w.heap.size w w1 → Calls Tryd.prog 14 #[.int .i64 (wrap64 ((IntKind.u64.wrap c).tmod 41))] w1 fun r w' => r = .returned (.pointer (some ⟨w1.heap.size + 1, 0, none⟩)) ∧ CCtx w w' (w1.heap.size + 1) w1.heap.size ⟨List.replicate n 0, 0⟩ ∧ Below w1.heap.size w1 w' from
    fun w1 h1 => by rw [show wrap64 ((IntKind.u64.wrap c).tmod 41) = (n : Int) from hz]; exact cctx_new hE h1 n (by omega))
  clear hE hz
  go_enter Tryd.func5, Tryd.ntmps5
  go_wp2_with fail
  refine HL.out.mono ?_
  rintro r w1 ⟨rfl, hb⟩
  have HB := Lib.hid hb
  clear hb HL
  go_wp2_with fail
  refine (HN.out w1 HB.out).mono ?_
  rintro r w2 ⟨rfl, hC, -⟩
  have HC := Lib.hid hC
  clear hC HN HB
  generalize w1.heap.size + 1 = mb at *
  generalize w1.heap.size = lb at *
  go_wp2_with fail
  refine (cctx_write HC.out (by simp) i v).mono ?_
  rintro r w3 ⟨rfl, hC, -⟩
  have hsl := swap_len ⟨List.replicate n 0, 0⟩ i v
  rw [List.length_replicate] at hsl
  generalize (CS.swap ⟨List.replicate n 0, 0⟩ i v).2.2 = u1 at *
  generalize (CS.swap ⟨List.replicate n 0, 0⟩ i v).1 = s at *
  subst hsl
  have HC := Lib.hid hC
  clear hC
  go_wp2_with fail
  refine (cctx_all HC.out).mono ?_
  rintro r w4 ⟨v1, rfl, hO, hC, hB4⟩
  have g3 : mb < w3.heap.size ∧ lb < w3.heap.size ∧ w.heap.size ≤ w3.heap.size := ⟨HC.out.at_.m.lt, HC.out.at_.d.lt, HC.out.bel.size⟩
  have g4 : w3.heap.size ≤ w4.heap.size := hB4.size
  clear HC hB4
  have HC := Lib.hid hC
  have HO := Lib.hid hO
  clear hC hO
  go_wp2_with fail
  refine (cctx_all HC.out).mono ?_
  rintro r w5 ⟨v2, rfl, hO2, hC, hb⟩
  have HI := Lib.hid (IntsIn.of_own hO2 rfl)
  obtain ⟨A2, c2, rfl⟩ := own_form hO2
  have HLT := Lib.hid HO.out.lt
  have HO5 := Lib.hid (ownsRow_below HO.out hb (Nat.le_refl _))
  have hlim : mb < w5.heap.size ∧ lb < w5.heap.size := ⟨hC.at_.m.lt, hC.at_.d.lt⟩
  clear HC HO hb
  have HC := Lib.hid hC
  clear hC
  have hn4 := HC.out.at_.le
  rcases Nat.eq_zero_or_pos s.l.length with h0 | hp
  · obtain ⟨A1, c1, rfl⟩ := own_form HO5.out
    have b0 : ¬ (0 : Int) < (s.l.length : Int) := by omega
    clear HO5 hlim h0 HLT
    go_wp2
    refine wp_loop_rounds 1 ?_
    rw [rounds_succ]
    go_wp2_with (first
      | (go_at_call 16; refine (cctx_all HC.out).mono ?_; rintro r w9 ⟨v3, rfl, hO3, hC9, hb9⟩; have HC9 := Lib.hid hC9; have H3 := Lib.hid (IntsIn.of_own hO3 rfl); have H2 := Lib.hid (HI.out.below hb9); clear hO3 hC9 hb9)
      | (go_at_call 18; refine (same_yes H3.out H2.out (by omega)).mono ?_; rintro r w10 ⟨rfl, k10, rfl⟩)
      | (go_at_call 19; refine (cctx_len (HC9.out.drewN _)).mono ?_; rintro r w11 ⟨rfl, rfl⟩))
    go_ret
    exact ⟨rfl, (HC9.out.drewN _).bel⟩
  · obtain ⟨_, ⟨_, hz⟩ | ⟨g1, cap1, cs, rfl, hg1, hh, hnc, _⟩⟩ := HO5.out
    · omega
    have hcl : ∀ j, j < s.l.length → ∃ x, cs[j]? = some (.int .i64 x) := fun j hj => ⟨s.l[j], by
      have h1 := Blk.cell (w := w5) hh j
      rw [← h1, HO5.out.cellAt j (by omega)]
      exact nums_get s.l j hj⟩
    have HO2 := Lib.hid hO2
    have hg4 := (HLT.out g1 rfl).2
    clear HLT
    have HH := Lib.hid (show Blk w5 g1 3 cs from hh)
    have HX := Lib.hid hcl
    clear hh hcl hO2
    go_wp2
    go_loopw [10] (fun i wr => ∃ k : Nat, k ≤ s.l.length ∧ i = .int .i64 k ∧ Only (fun j => j = g1) w5 wr ∧ ∃ cs, Blk wr g1 3 cs ∧ ∀ j, j < s.l.length → ∃ x, cs[j]? = some (.int .i64 x)) (fun i _ => s.l.length - (intOf i).toNat)
    case atStart => exact ⟨0, Nat.zero_le _, rfl, onl_refl _ _, _, HH.out, HX.out⟩
    case round =>
      obtain ⟨k, hk, rfl, hOn, cs', hB, hcs⟩ := hrel
      by_cases hlt : k < s.l.length
      · obtain ⟨x, hx⟩ := hcs k hlt
        have e1 := (hB.cell k).trans hx
        have f1 := hB.fr k
        have b0 : (0 : Int) ≤ (k : Int) := by omega
        have b1 : (k : Int) < (s.l.length : Int) := by omega
        have HN := Lib.hid (onl_set (S := fun j => j = g1) hOn (p := ⟨g1, k, none⟩) (.inl rfl) (.int .i64 (wrap64 (x + 1))))
        have HB := Lib.hid (hB.set k (.int .i64 (wrap64 (x + 1))))
        have HK := Lib.hid (show ∀ j, j < s.l.length → ∃ y, (cs'.setIfInBounds k (.int .i64 (wrap64 (x + 1))))[j]? = some (.int .i64 y) from fun j hj => by
          rw [Array.getElem?_setIfInBounds]
          split
          · split
            · exact ⟨_, rfl⟩
            · obtain ⟨y, hy⟩ := hcs j hj
              have := (Array.getElem?_eq_some_iff.1 hy).1
              omega
          · exact hcs j hj)
        clear hOn hB hcs hx
        go_wp2
        go_roundw
        case rel => exact ⟨k + 1, by omega, by go_num, HN.out, _, HB.out, HK.out⟩
        case measure => simp [intOf]; omega
      · obtain rfl : k = s.l.length := by omega
        have HC' := Lib.hid (HC.out.other hOn (by omega) (by omega) (by rintro j rfl; omega))
        have HI' := Lib.hid (show IntsIn wr (.slice A2 s.l.length c2) s.l from IntsIn.of_own (ownsRow_onl HO2.out hOn (by omega)) rfl)
        clear hOn hB hcs hlt HC HI
        have HC := HC'
        have HI := HI'
        clear HC' HI'
        go_wp2_with (first
          | (go_at_call 16; refine (cctx_all HC.out).mono ?_; rintro r w9 ⟨v3, rfl, hO3, hC9, hb9⟩; have HC9 := Lib.hid hC9; have H3 := Lib.hid (IntsIn.of_own hO3 rfl); have H2 := Lib.hid (HI.out.below hb9); clear hO3 hC9 hb9)
          | (go_at_call 18; refine (same_yes H3.out H2.out (by omega)).mono ?_; rintro r w10 ⟨rfl, k10, rfl⟩)
          | (go_at_call 19; refine (cctx_len (HC9.out.drewN _)).mono ?_; rintro r w11 ⟨rfl, rfl⟩))
        go_ret
        exact ⟨rfl, (HC9.out.drewN _).bel⟩
theorem cellOwns_law (a0 a1 a2 : Int) (W : World) (hL : laidC W) :
    Calls Tryd.prog 5 #[.int .i64 a0, .int .i64 a1, .int .i64 a2] W fun r w' => r = .returned (.bool true) ∧ Below W.heap.size W w' := law_cellOwns a0 a1 a2 (err_of_laid hL)
end Go.Proofs.YtkamcjejongmbaaDoor
