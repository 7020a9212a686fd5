/- An error's text: the program's, and the reference's. -/
import Derived.Test.YtkamcjejongmbaaDoorCellAsB
import Derived.Test.YtkamcjejongmbaaDoorCellDigits
import Derived.Deep.RegionHeld3
namespace Go.Proofs.YtkamcjejongmbaaDoor
open Go.RowKit Go.Extern.Stop Go.Stop Go.Extern

def textB (k : Int) : ByteArray :=
  if k = 0 then ⟨#[110, 111, 32, 101, 114, 114, 111, 114]⟩
  else if k = 1 then ⟨#[110, 111, 32, 97, 99, 116, 105, 111, 110]⟩
  else if k = 2 then ⟨#[110, 111, 116, 32, 97, 118, 97, 105, 108, 97, 98, 108, 101]⟩
  else if k = 3 then ⟨#[105, 110, 118, 97, 108, 105, 100, 32, 112, 97, 114, 97, 109]⟩
  else if k = 4 then ⟨#[105, 110, 118, 97, 108, 105, 100, 32, 99, 111, 110, 102, 105, 103]⟩
  else if k = 5 then ⟨#[105, 110, 118, 97, 108, 105, 100, 32, 109, 111, 100, 101]⟩
  else if k = 6 then ⟨#[116, 105, 109, 101, 100, 32, 111, 117, 116]⟩
  else if k = 7 then ⟨#[114, 97, 110, 103, 101]⟩
  else if k = 8 then ⟨#[102, 111, 114, 109]⟩
  else if k = 9 then ⟨#[115, 104, 111, 114, 116]⟩
  else if k = 10 then ⟨#[102, 117, 108, 108]⟩
  else if k = 11 then ⟨#[101, 109, 112, 116, 121]⟩
  else ⟨#[117, 110, 107, 110, 111, 119, 110]⟩
theorem text_no (k : Int) (h : k < 0 ∨ 11 < k) : textB k = ⟨#[117, 110, 107, 110, 111, 119, 110]⟩ := by
  unfold textB
  repeat rw [if_neg (by omega)]
theorem text_size (k : Int) : (textB k).size ≤ 14 := by
  by_cases h : k < 0 ∨ 11 < k
  · rw [text_no k h]; decide
  · rcases (show k = 0 ∨ k = 1 ∨ k = 2 ∨ k = 3 ∨ k = 4 ∨ k = 5 ∨ k = 6 ∨ k = 7 ∨ k = 8 ∨ k = 9 ∨ k = 10 ∨ k = 11 by omega) with rfl | rfl | rfl | rfl | rfl | rfl | rfl | rfl | rfl | rfl | rfl | rfl <;> decide
set_option maxRecDepth 100000 in
set_option maxHeartbeats 3200000 in
theorem errtext_any (k : Int) (w : World) : Calls Tryd.prog 78 #[.int .i64 k] w fun e w' => e = .returned (.string (textB k)) ∧ Below w.heap.size w w' := by
  by_cases hk : k < 0 ∨ 11 < k
  · rw [text_no k hk]
    by_cases h0 : k < 0
    · have hd : decide (k < 0) = true := by simp [h0]
      clear hk
      go_enter Tryd.func78, Tryd.ntmps78
      go_wp2
      go_ret
      exact ⟨rfl, below_alloc (Nat.le_refl _) _⟩
    · have hd : decide (k < 0) = false := by simp [h0]
      have h1 : (12 : Int) ≤ k := by omega
      clear hk h0
      go_enter Tryd.func78, Tryd.ntmps78
      go_wp2
      go_ret
      exact ⟨rfl, below_alloc (Nat.le_refl _) _⟩
  · rcases (show k = 0 ∨ k = 1 ∨ k = 2 ∨ k = 3 ∨ k = 4 ∨ k = 5 ∨ k = 6 ∨ k = 7 ∨ k = 8 ∨ k = 9 ∨ k = 10 ∨ k = 11 by omega) with rfl | rfl | rfl | rfl | rfl | rfl | rfl | rfl | rfl | rfl | rfl | rfl
    all_goals
      clear hk
      go_enter Tryd.func78, Tryd.ntmps78
      go_wp2
      go_ret
      exact ⟨rfl, below_alloc (Nat.le_refl _) _⟩
set_option maxRecDepth 100000 in
set_option maxHeartbeats 3200000 in
theorem rtext_any (k : Int) (w : World) : Calls Tryd.prog 32 #[.int .i64 k] w fun e w' => e = .returned (.string (textB k)) ∧ Below w.heap.size w w' := by
  by_cases hk : k < 0 ∨ 11 < k
  · rw [text_no k hk]
    by_cases h0 : k < 0
    · have hd : decide (k < 0) = true := by simp [h0]
      clear hk
      go_enter Tryd.func32, Tryd.ntmps32
      go_wp2
      go_ret
      exact ⟨rfl, Below.refl _ _⟩
    · have hd : decide (k < 0) = false := by simp [h0]
      have h1 : (11 : Int) < k := by omega
      clear hk h0
      go_enter Tryd.func32, Tryd.ntmps32
      go_wp2
      go_ret
      exact ⟨rfl, Below.refl _ _⟩
  · rcases (show k = 0 ∨ k = 1 ∨ k = 2 ∨ k = 3 ∨ k = 4 ∨ k = 5 ∨ k = 6 ∨ k = 7 ∨ k = 8 ∨ k = 9 ∨ k = 10 ∨ k = 11 by omega) with rfl | rfl | rfl | rfl | rfl | rfl | rfl | rfl | rfl | rfl | rfl | rfl
    all_goals
      clear hk
      go_enter Tryd.func32, Tryd.ntmps32
      go_wp2
      go_ret
      exact ⟨rfl, below_alloc (Nat.le_refl _) _⟩
theorem methodError (k : Int) (w : World) : (Go.method 251 24 (.int .i64 k) "Error").run Tryd.prog w = .ok (78, .int .i64 k) w := by kernel_rfl
def faultB (k i : Int) : ByteArray := textB k ++ ⟨#[32, 97, 116, 32]⟩ ++ numB i
set_option maxRecDepth 100000 in
set_option maxHeartbeats 3200000 in
theorem fault_error {w : World} {g : Nat} {i k : Int} (h : Blk w g 60 #[.int .i64 i, .iface 24 (.int .i64 k)]) (hi : -9223372036854775808 ≤ i ∧ i ≤ 9223372036854775807) (hI : ItoaAt w i) :
    Calls Tryd.prog 31 #[.pointer (some ⟨g, 0, none⟩)] w fun e w' => e = .returned (.string (faultB k i)) ∧ Below w.heap.size w w' := by
  have hm := methodError
  have hbw : Below w.heap.size w w := Below.refl _ _
  have k0 : w.cell? ⟨g, 0, none⟩ = some (.int .i64 i) := (h.cell 0).trans rfl
  have k1 : w.cell? ⟨g, 1, none⟩ = some (.iface 24 (.int .i64 k)) := (h.cell 1).trans rfl
  have hgl := h.lt
  have HT := Lib.hid (show ∀ w', Below w.heap.size w w' → Calls Tryd.prog 78 #[.int .i64 k] w' fun r w'' => r = .returned (.string (textB k)) ∧ Below w.heap.size w w'' ∧ w''.cell? ⟨g, 0, none⟩ = some (.int .i64 i) ∧ w''.cell? ⟨g, 1, none⟩ = some (.iface 24 (.int .i64 k)) from fun w' hb =>
    (errtext_any k w').mono fun r w'' ⟨hr, hb'⟩ => by
      have hb2 : Below w.heap.size w w'' := hb.trans (hb'.mono hb.size)
      exact ⟨hr, hb2, (hb2.cell (p := ⟨g, 0, none⟩) hgl).trans k0, (hb2.cell (p := ⟨g, 1, none⟩) hgl).trans k1⟩)
  have HN := Lib.hid (show ∀ w', Below w.heap.size w w' → Calls Tryd.prog 40 #[.int .i64 i] w' fun r w'' => r = .returned (.string (numB i)) ∧ Below w.heap.size w w'' ∧ w''.cell? ⟨g, 0, none⟩ = some (.int .i64 i) ∧ w''.cell? ⟨g, 1, none⟩ = some (.iface 24 (.int .i64 k)) from fun w' hb =>
    (hI w' hb).mono fun r w'' ⟨hr, hb'⟩ => by
      have hb2 : Below w.heap.size w w'' := hb.trans (hb'.mono hb.size)
      exact ⟨hr, hb2, (hb2.cell (p := ⟨g, 0, none⟩) hgl).trans k0, (hb2.cell (p := ⟨g, 1, none⟩) hgl).trans k1⟩)
  have s1 := text_size k
  have s2 := num_size i hi.1 hi.2
  have z1 : ¬ 9223372036854775807 < (textB k).size + 4 := by omega
  have z2 : ¬ 9223372036854775807 < (textB k).size + 4 + (numB i).size := by omega
  unfold faultB
  generalize textB k = tk at *
  generalize numB i = ni at *
  clear h hgl hi hI
  go_enter Tryd.func31, Tryd.ntmps31
  go_wp2_with fail
  go_region_held3 (fun w' => Below w.heap.size w w' ∧ w'.cell? ⟨g, 0, none⟩ = some (.int .i64 i) ∧ w'.cell? ⟨g, 1, none⟩ = some (.iface 24 (.int .i64 k)))
    (first | exact ⟨hbw, k0, k1⟩ | exact ⟨hbw.drew, k0, k1⟩)
    (first
      | (go_at_call 40; refine (HN.out _ (by first | exact hbw | exact hbw.drew)).mono ?_; rintro r w' ⟨rfl, hbw, k0, k1⟩)
      | (go_at_call 78; refine (HT.out _ (by first | exact hbw | exact hbw.drew)).mono ?_; rintro r w' ⟨rfl, hbw, k0, k1⟩))
  go_wp2
  go_ret
  exact ⟨rfl, hbw⟩
end Go.Proofs.YtkamcjejongmbaaDoor
