/- CellNil: a memory that is not there. -/
import Derived.Test.YtkamcjejongmbaaDoorCellOpens
namespace Go.Proofs.YtkamcjejongmbaaDoor
open Go.RowKit

theorem why_nil (i v : Int) : why 0 i v = 7 := by
  unfold why
  rw [if_pos (by omega)]
theorem mreset_nil (a k : Int) (hk : -9223372036854775808 ≤ k ∧ k ≤ 9223372036854775807) (ha : -9223372036854775808 ≤ a ∧ a ≤ 9223372036854775807) (w : World) :
    Calls Tryd.prog 29 #[.pointer none, .int .i64 a, .int .i64 k] w fun e w' => e = .returned (.int .i64 7) ∧ w = w' := by
  by_cases h : k < 0 ∨ a < 0 ∨ ((0 : Nat) : Int) < a + k
  · exact mreset_bad (mlen_nil w) a k (by omega) hk ha h
  · obtain rfl : a = 0 := by omega
    obtain rfl : k = 0 := by omega
    have HL := Lib.hid (mlen_nil w)
    clear h hk ha
    go_enter Tryd.func29, Tryd.ntmps29
    go_wp2_with (go_at_call 19; refine (HL.out).mono ?_; rintro e w' ⟨rfl, rfl⟩)
    go_ret
    exact ⟨rfl, rfl⟩
theorem law_cellNil (i v : Int) (hi : -9223372036854775808 ≤ i ∧ i ≤ 9223372036854775807) (hv : -9223372036854775808 ≤ v ∧ v ≤ 9223372036854775807) {w : World} (hE : ErrT w) :
    Calls Tryd.prog 10 #[.int .i64 i, .int .i64 v] w fun r w' => r = .returned (.bool true) ∧ Below w.heap.size w w' := by
  have HL := Lib.hid (lives_any hE (Below.refl _ w))
  have KE := Lib.hid hE
  have KN := Lib.hid (show ∀ w', Below w.heap.size w w' → ErrT w' from fun w' hb => (hb.cell (p := ⟨0, 0, none⟩) (World.block_lt_of_cell? _ _ hE)).trans hE)
  have HR := Lib.hid (fun w' (h : Below w.heap.size w w') => by have := read_bad (mlen_nil w') (KN.out w' h) i (by rw [why_nil]; decide); rw [why_nil] at this; exact this)
  have HS := Lib.hid (fun w' (h : Below w.heap.size w w') => by have := swap_bad (mlen_nil w') (KN.out w' h) i v (by rw [why_nil]; decide); rw [why_nil] at this; exact this)
  have HW := Lib.hid (fun w' (h : Below w.heap.size w w') => by have := write_bad (mlen_nil w') (KN.out w' h) i v (by rw [why_nil]; decide); rw [why_nil] at this; exact this)
  have HZ := Lib.hid (fun w' => mreset_nil i v hv hi w')
  clear hE KE hi hv
  go_enter Tryd.func10, Tryd.ntmps10
  go_wp2_with fail
  refine HL.out.mono ?_
  rintro r w1 ⟨rfl, hb⟩
  have HB := Lib.hid hb
  clear hb HL
  go_wp2_with fail
  refine (HR.out _ HB.out).mono ?_
  rintro r w2 ⟨rfl, hb⟩
  have HB2 := Lib.hid (HB.out.trans (hb.mono HB.out.size))
  clear hb HB
  go_wp2_with fail
  refine (HS.out _ HB2.out).mono ?_
  rintro r w3 ⟨rfl, hb⟩
  have HB3 := Lib.hid (HB2.out.trans (hb.mono HB2.out.size))
  clear hb HB2
  go_wp2_with (first
    | (go_at_call 15; refine (HW.out _ HB3.out).mono ?_; rintro e w4 ⟨rfl, hb⟩; have HB4 := Lib.hid (HB3.out.trans (hb.mono HB3.out.size)); clear hb)
    | (go_at_call 29; refine (HZ.out _).mono ?_; rintro e w5 ⟨rfl, rfl⟩)
    | (go_at_call 19; refine (mlen_nil _).mono ?_; rintro e w6 ⟨rfl, rfl⟩)
    | (go_at_call 17; refine (mcount_nil _).mono ?_; rintro e w6 ⟨rfl, rfl⟩)
    | (go_at_call 16; refine (mall_nil _).mono ?_; rintro e w6 ⟨rfl, rfl⟩))
  go_ret
  exact ⟨rfl, HB4.out⟩
theorem cellNil_law (a0 a1 : Int) (W : World) (h0 : (Lit.int .i64 a0).wf = true) (h1 : (Lit.int .i64 a1).wf = true) (hL : laidC W) :
    Calls Tryd.prog 10 #[.int .i64 a0, .int .i64 a1] W fun r w' => r = .returned (.bool true) ∧ Below W.heap.size W w' := law_cellNil a0 a1 (wf_i64 h0) (wf_i64 h1) (err_of_laid hL)
end Go.Proofs.YtkamcjejongmbaaDoor
