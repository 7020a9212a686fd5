/- CellWhys: an error's text, whatever the error and the cell. -/
import Derived.Test.YtkamcjejongmbaaDoorCellOpens
namespace Go.Proofs.YtkamcjejongmbaaDoor
open Go.RowKit

theorem law_cellWhys (k i : Int) (hi : -9223372036854775808 ≤ i ∧ i ≤ 9223372036854775807) {w : World} (hE : ErrT w) (ht : Lib.TabIs Tryd.prog w "internal/strconv.uint64pow10" .u64 Lib.pow10Tab) :
    Calls Tryd.prog 3 #[.int .i64 k, .int .i64 i] w fun r w' => r = .returned (.bool true) ∧ Below w.heap.size w w' := by
  have HL := Lib.hid (lives_any hE (Below.refl _ w))
  have HY := Lib.hid (fun w' (hb : Below w.heap.size w w') => why_any (w := w') k i hi (itoa_tab w' i hi.1 hi.2 (tabIs_below ht hb)))
  have HR := Lib.hid (fun w' => rwhy_any (w := w') k i hi)
  clear hE hi ht
  generalize whyB k i = B at *
  go_enter Tryd.func3, Tryd.ntmps3
  go_wp2_with fail
  refine HL.out.mono ?_
  rintro r w1 ⟨rfl, hb⟩
  have HB := Lib.hid hb
  clear hb HL
  go_wp2_with fail
  refine (HY.out _ HB.out).mono ?_
  rintro r w2 ⟨rfl, hb⟩
  have HB2 := Lib.hid (HB.out.trans (hb.mono HB.out.size))
  clear hb HB
  go_wp2_with fail
  refine (HR.out _).mono ?_
  rintro r w3 ⟨rfl, hb⟩
  have HB3 := Lib.hid (HB2.out.trans (hb.mono HB2.out.size))
  clear hb HB2
  go_wp2
  go_ret
  exact ⟨rfl, HB3.out⟩
theorem cellWhys_law (a0 a1 : Int) (W : World) (h1 : (Lit.int .i64 a1).wf = true) (hL : laidC W) :
    Calls Tryd.prog 3 #[.int .i64 a0, .int .i64 a1] W fun r w' => r = .returned (.bool true) ∧ Below W.heap.size W w' := law_cellWhys a0 a1 (wf_i64 h1) (err_of_laid hL) (tab_of_laid hL)
end Go.Proofs.YtkamcjejongmbaaDoor
