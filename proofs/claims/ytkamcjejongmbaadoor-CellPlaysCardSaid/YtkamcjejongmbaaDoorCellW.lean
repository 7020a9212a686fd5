/- The reference's Reset as one; New of CellPlays. -/
import Derived.Test.YtkamcjejongmbaaDoorCellV
namespace Go.Proofs.YtkamcjejongmbaaDoor
open Go.RowKit

set_option maxRecDepth 100000 in
theorem rreset_none {w : World} {A : Option Addr} {c : Nat} {N : Int} :
    Calls Tryd.prog 28 #[.agg #[.slice A 0 c, .int .i64 N], .int .i64 0, .int .i64 0] w fun e w' => e = .returned (.tuple #[.agg #[.slice none 0 0, .int .i64 N], .int .i64 0]) ∧ Below w.heap.size w w' := by
  have HZ := Lib.hid (show Blk ((w.alloc (.cells #[.slice none 0 0, .int .i64 N] 45)).alloc (.cells #[.slice none 0 0, .int .i64 N] 45)) (w.heap.size + 1) 45 #[.slice none 0 0, .int .i64 N] from by
    have := Blk.new (w.alloc (.cells #[.slice none 0 0, .int .i64 N] 45)) 45 #[.slice none 0 0, .int .i64 N]; simpa using this)
  have HF := Lib.hid ((below_alloc (Nat.le_refl w.heap.size) (.cells #[.slice none 0 0, .int .i64 N] 45)).alloc (by simp) (.cells #[.slice none 0 0, .int .i64 N] 45))
  go_enter Tryd.func28, Tryd.ntmps28
  go_wp2_with (at_builtin; go_loud (refine app_empty rfl _ _ rfl rfl A c rfl ?_))
  refine wp_loop_rounds 1 ?_
  rw [rounds_succ]
  go_wp2
  exact bodyPost_ret (res_c2 rfl _ rfl HZ.out Tryd.underlying45 rfl sizeM) rfl ⟨rfl, HF.out⟩
theorem rreset_rm {B : Nat} {w : World} {v0 : Value} {s : CS} (h : RM B w v0 s) (hBw : B ≤ w.heap.size) (hle : s.l.length ≤ 4096) (a k : Int) (hk : -9223372036854775808 ≤ k ∧ k ≤ 9223372036854775807) (ha : -9223372036854775808 ≤ a ∧ a ≤ 9223372036854775807) :
    Calls Tryd.prog 28 #[v0, .int .i64 a, .int .i64 k] w fun e w' =>
      ∃ v', e = .returned (.tuple #[v', .int .i64 (s.reset a k).2]) ∧ RM B w' v' (s.reset a k).1 ∧ Below w.heap.size w w' := by
  obtain ⟨A, c, rfl, h, t⟩ := h
  by_cases hf : s.fits a k
  · have hf0 := hf
    unfold CS.fits at hf
    obtain ⟨a, rfl⟩ := Int.eq_ofNat_of_zero_le hf.2.1
    obtain ⟨k, rfl⟩ := Int.eq_ofNat_of_zero_le hf.1
    rw [reset_fits (by omega)]
    by_cases hl0 : 0 < s.l.length
    · refine (rreset_ok h hle a k (by omega) hl0 hBw).mono ?_
      rintro e w' ⟨A', c', rfl, hI, hT, hB⟩
      have hz : (zeroed s.l a k).length = s.l.length := zeroed_len _ _ _ (by omega)
      refine ⟨_, rfl, ⟨A', c', by rw [hz], by rw [hz]; exact hI, by rw [hz]; exact hT⟩, hB⟩
    · obtain ⟨l, cc⟩ := s
      obtain rfl : l = [] := List.eq_nil_of_length_eq_zero (by simpa using hl0)
      obtain rfl : a = 0 := by simp at hf; omega
      obtain rfl : k = 0 := by simp at hf; omega
      refine rreset_none.mono ?_
      rintro e w' ⟨rfl, hB⟩
      exact ⟨_, rfl, ⟨none, 0, rfl, IntsIn.nil _, fun h => absurd h (by simp [zeroed])⟩, hB⟩
  · have e : s.reset a k = (s, 7) := by unfold CS.reset; rw [if_neg hf]
    rw [e]
    unfold CS.fits at hf
    refine (rreset_bad hle a k hk ha (by omega)).mono ?_
    rintro e w' ⟨rfl, hB⟩
    exact ⟨_, rfl, ⟨A, c, rfl, h.below hB, t.below hB⟩, hB⟩
/-- How many cells: New's argument in CellPlays. -/
def argOf (x : Int) : Int := if 200 < x ∧ x ≤ 4096 then x.tmod 200 else x
def cellsOf (x : Int) : Nat := (min (max (argOf x) 0) 4096).toNat
theorem cellsOf_le (x : Int) : cellsOf x ≤ 4096 := by unfold cellsOf; omega
theorem cellsOf_eq (x : Int) : min (max (argOf x) 0) 4096 = (cellsOf x : Int) := by unfold cellsOf; omega
end Go.Proofs.YtkamcjejongmbaaDoor
