/- The memory's accesses, whatever the cell and the word: refused ones, and a memory that is not there. -/
import Derived.Test.YtkamcjejongmbaaDoorCellP
import Derived.Test.YtkamcjejongmbaaDoorCellAsB
import Derived.Test.YtkamcjejongmbaaDoorMemReset
namespace Go.Proofs.YtkamcjejongmbaaDoor
open Go.RowKit

/-- A memory's length, told. -/
abbrev LenAt (w : World) (p : Value) (n : Nat) : Prop := Calls Tryd.prog 19 #[p] w fun e w' => e = .returned (.int .i64 n) ∧ w = w'
theorem mlen_nil (w : World) : LenAt w (.pointer none) 0 := by
  unfold LenAt
  go_enter Tryd.func19, Tryd.ntmps19
  go_wp2
  go_ret
  exact ⟨rfl, rfl⟩
def faultC (i k : Int) : Array Value := #[.int .i64 i, .iface 24 (.int .i64 k)]
theorem access_bad {w : World} {p : Value} {n : Nat} (h : LenAt w p n) (i v : Int) (hw : why n i v ≠ 0) :
    Calls Tryd.prog 35 #[p, .int .i64 i, .int .i64 v] w fun e w' => e = .returned (.tuple #[.pointer none, .iface 56 (.pointer (some ⟨w.heap.size, 0, none⟩))]) ∧ w.alloc (.cells (faultC i (why n i v)) 60) = w' := by
  have HL := Lib.hid h
  clear h
  unfold faultC
  rcases why_cases n i v with ⟨e, _⟩ | ⟨e, h⟩ | ⟨e, h0, h1, h⟩
  · exact absurd e hw
  · rw [e]
    clear hw e
    by_cases hi : i < 0
    · clear h
      go_enter Tryd.func35, Tryd.ntmps35
      go_wp2_with (go_at_call 19; refine (HL.out).mono ?_; rintro e w' ⟨rfl, rfl⟩)
      go_ret2
      exact ⟨rfl, rfl⟩
    · have h2 : (n : Int) ≤ i := by omega
      clear h
      go_enter Tryd.func35, Tryd.ntmps35
      go_wp2_with (go_at_call 19; refine (HL.out).mono ?_; rintro e w' ⟨rfl, rfl⟩)
      go_ret2
      exact ⟨rfl, rfl⟩
  · rw [e]
    clear hw e
    have h2 : ¬ i < 0 := by omega
    by_cases hi : v < 0
    · clear h
      go_enter Tryd.func35, Tryd.ntmps35
      go_wp2_with (go_at_call 19; refine (HL.out).mono ?_; rintro e w' ⟨rfl, rfl⟩)
      go_ret2
      exact ⟨rfl, rfl⟩
    · have h3 : 2147483647 < v := by omega
      clear h
      go_enter Tryd.func35, Tryd.ntmps35
      go_wp2_with (go_at_call 19; refine (HL.out).mono ?_; rintro e w' ⟨rfl, rfl⟩)
      go_ret2
      exact ⟨rfl, rfl⟩
/-- The library's variable, as it stands from the start on. -/
abbrev ErrT (w : World) : Prop := w.cell? ⟨0, 0, none⟩ = some (.iface 80 (.agg #[.pointer (some ⟨4, 58, none⟩)]))
theorem code_fault {w : World} {g : Nat} {i k : Int} (hg : Blk w g 60 (faultC i k)) (hE : ErrT w) :
    Calls Tryd.prog 36 #[.iface 56 (.pointer (some ⟨g, 0, none⟩))] w fun e w' => e = .returned (.int .i64 k) ∧ Below w.heap.size w w' := by
  unfold faultC at hg
  have HA := Lib.hid (as_fault (w := w.alloc (.cells #[.int .i64 0] 24)) (t := w.heap.size) (hg.alloc _) (World.cell?_alloc_at _ _ _ _ rfl) ((Blk.new w 24 #[.int .i64 0]).fr 0) (by rw [World.cell?_alloc_lt _ _ _ (World.block_lt_of_cell? _ _ hE)]; exact hE))
  clear hg hE
  go_enter Tryd.func36, Tryd.ntmps36
  go_wp2_with fail
  refine (HA.out).mono ?_
  rintro e w' ⟨rfl, hc, ho⟩
  have HO := Lib.hid (below_onl (below_alloc (Nat.le_refl w.heap.size) (.cells #[.int .i64 0] 24)) ho (by simp) (fun k e => by omega))
  clear ho HA
  go_wp2
  go_ret
  exact ⟨rfl, HO.out⟩
theorem read_bad {w : World} {p : Value} {n : Nat} (h : LenAt w p n) (hE : ErrT w) (i : Int) (hw : why n i 0 ≠ 0) :
    Calls Tryd.prog 22 #[p, .int .i64 i] w fun e w' => e = .returned (.tuple #[.int .i64 0, .int .i64 (why n i 0)]) ∧ Below w.heap.size w w' := by
  have HA := Lib.hid (access_bad h i 0 hw)
  have HC := Lib.hid (code_fault (w := w.alloc (.cells (faultC i (why n i 0)) 60)) (g := w.heap.size) (Blk.new _ _ _) (by rw [ErrT, World.cell?_alloc_lt _ _ _ (World.block_lt_of_cell? _ _ hE)]; exact hE))
  clear h hE hw
  generalize why n i 0 = k at *
  go_enter Tryd.func22, Tryd.ntmps22
  go_wp2_with (first | (go_at_call 35; refine (HA.out).mono ?_; rintro e w' ⟨rfl, rfl⟩) | (go_at_call 36; refine (HC.out).mono ?_; rintro e w' ⟨rfl, hb⟩; have HB := Lib.hid ((below_alloc (Nat.le_refl w.heap.size) (.cells (faultC i k) 60)).trans (hb.mono (by simp))); clear hb))
  go_ret2
  exact ⟨rfl, HB.out⟩
theorem swap_bad {w : World} {p : Value} {n : Nat} (h : LenAt w p n) (hE : ErrT w) (i v : Int) (hw : why n i v ≠ 0) :
    Calls Tryd.prog 21 #[p, .int .i64 i, .int .i64 v] w fun e w' => e = .returned (.tuple #[.int .i64 0, .int .i64 (why n i v)]) ∧ Below w.heap.size w w' := by
  have HA := Lib.hid (access_bad h i v hw)
  have HC := Lib.hid (code_fault (w := w.alloc (.cells (faultC i (why n i v)) 60)) (g := w.heap.size) (Blk.new _ _ _) (by rw [ErrT, World.cell?_alloc_lt _ _ _ (World.block_lt_of_cell? _ _ hE)]; exact hE))
  clear h hE hw
  generalize why n i v = k at *
  go_enter Tryd.func21, Tryd.ntmps21
  go_wp2_with (first | (go_at_call 35; refine (HA.out).mono ?_; rintro e w' ⟨rfl, rfl⟩) | (go_at_call 36; refine (HC.out).mono ?_; rintro e w' ⟨rfl, hb⟩; have HB := Lib.hid ((below_alloc (Nat.le_refl w.heap.size) (.cells (faultC i k) 60)).trans (hb.mono (by simp))); clear hb))
  go_ret2
  exact ⟨rfl, HB.out⟩
theorem write_bad {w : World} {p : Value} {n : Nat} (h : LenAt w p n) (hE : ErrT w) (i v : Int) (hw : why n i v ≠ 0) :
    Calls Tryd.prog 15 #[p, .int .i64 i, .int .i64 v] w fun e w' => e = .returned (.int .i64 (why n i v)) ∧ Below w.heap.size w w' := by
  have HA := Lib.hid (swap_bad h hE i v hw)
  clear h hE hw
  generalize why n i v = k at *
  go_enter Tryd.func15, Tryd.ntmps15
  go_wp2_with fail
  refine HA.out.mono ?_
  rintro e w' ⟨rfl, hb⟩
  have HB := Lib.hid hb
  clear hb HA
  go_wp2
  go_ret
  exact ⟨rfl, HB.out⟩
theorem mcount_any {w : World} {mb lb : Nat} {l : List Int} {c : Int} (h : MemAt w mb lb l c) :
    Calls Tryd.prog 17 #[.pointer (some ⟨mb, 0, none⟩)] w fun e w' => e = .returned (.int .i64 c) ∧ w = w' := by
  have h1 := h.m1
  clear h
  go_enter Tryd.func17, Tryd.ntmps17
  go_wp2
  go_ret
  exact ⟨rfl, rfl⟩
theorem mcount_nil (w : World) : Calls Tryd.prog 17 #[.pointer none] w fun e w' => e = .returned (.int .i64 0) ∧ w = w' := by
  go_enter Tryd.func17, Tryd.ntmps17
  go_wp2
  go_ret
  exact ⟨rfl, rfl⟩
theorem mall_nil (w : World) : Calls Tryd.prog 16 #[.pointer none] w fun e w' => e = .returned (.slice none 0 0) ∧ w = w' := by
  go_enter Tryd.func16, Tryd.ntmps16
  go_wp2
  go_ret
  exact ⟨rfl, rfl⟩
theorem mreset_bad {w : World} {p : Value} {n : Nat} (h : LenAt w p n) (a k : Int) (hn : n ≤ 4096) (hk : -9223372036854775808 ≤ k ∧ k ≤ 9223372036854775807) (ha : -9223372036854775808 ≤ a ∧ a ≤ 9223372036854775807) (hw : k < 0 ∨ a < 0 ∨ (n : Int) < a + k) :
    Calls Tryd.prog 29 #[p, .int .i64 a, .int .i64 k] w fun e w' => e = .returned (.int .i64 7) ∧ w = w' := by
  have HL := Lib.hid h
  clear h
  rcases (show k < 0 ∨ (0 ≤ k ∧ a < 0) ∨ (0 ≤ k ∧ 0 ≤ a ∧ (n : Int) < a) ∨ (0 ≤ k ∧ 0 ≤ a ∧ a ≤ (n : Int) ∧ (n : Int) - a < k) by omega) with h | ⟨h, h1⟩ | ⟨h, h1, h2⟩ | ⟨h, h1, h2, h3⟩
  · clear hw
    go_enter Tryd.func29, Tryd.ntmps29
    go_wp2_with (go_at_call 19; refine (HL.out).mono ?_; rintro e w' ⟨rfl, rfl⟩)
    go_ret
    exact ⟨rfl, rfl⟩
  · clear hw
    go_enter Tryd.func29, Tryd.ntmps29
    go_wp2_with (go_at_call 19; refine (HL.out).mono ?_; rintro e w' ⟨rfl, rfl⟩)
    go_ret
    exact ⟨rfl, rfl⟩
  · clear hw
    go_enter Tryd.func29, Tryd.ntmps29
    go_wp2_with (go_at_call 19; refine (HL.out).mono ?_; rintro e w' ⟨rfl, rfl⟩)
    go_ret
    exact ⟨rfl, rfl⟩
  · clear hw
    have e1 : wrap64 ((n : Int) - a) = (n : Int) - a := by unfold wrap64; omega
    go_enter Tryd.func29, Tryd.ntmps29
    go_wp2_with (go_at_call 19; refine (HL.out).mono ?_; rintro e w' ⟨rfl, rfl⟩)
    go_ret
    exact ⟨rfl, rfl⟩
end Go.Proofs.YtkamcjejongmbaaDoor
