/- Messages through a ring: round, cell, get. -/
import Derived.Test.YtelfclcljdjohaaDoorRing
namespace Go.Proofs.YtelfclcljdjohaaDoor
open Go.RowKit

theorem round_any {w : World} {b : Nat} (P : Nat) (n : Int) (c0 : w.cell? ⟨b, 0, none⟩ = some (.int .i64 P)) (hP : 1 ≤ P) (hP8 : P ≤ 8) (h1 : -(2 * (P : Int)) ≤ n) (h2 : n ≤ 64) :
    Calls Tryd.prog 36 #[.pointer (some ⟨b, 0, none⟩), .int .i64 n] w fun e w' => e = .returned (.int .i64 (n % (2 * (P : Int)))) ∧ ∃ q, w' = w.drewN q := by
  have w1 : IntKind.i64.wrap (2 * (P : Int)) = 2 * (P : Int) := by rw [IntKind.wrap_i64]; omega
  have w2 : IntKind.i64.wrap (n + 2 * (P : Int)) = n + 2 * (P : Int) := by rw [IntKind.wrap_i64]; omega
  have ht : (n + 2 * (P : Int)).tmod (2 * (P : Int)) = n % (2 * (P : Int)) := by rw [Int.tmod_eq_emod_of_nonneg (by omega), Int.add_emod_right]
  have hr0 : 0 ≤ n % (2 * (P : Int)) := Int.emod_nonneg _ (by omega)
  have hr1 : n % (2 * (P : Int)) < 2 * (P : Int) := Int.emod_lt_of_pos _ (by omega)
  have w3 : IntKind.i64.wrap ((n + 2 * (P : Int)).tmod (2 * (P : Int))) = n % (2 * (P : Int)) := by rw [ht, IntKind.wrap_i64]; omega
  have hne : ¬ 2 * (P : Int) = 0 := by omega
  have hne1 : ¬ (P : Int) = 0 := by omega
  have hne2 : ¬ P = 0 := by omega
  clear hr0 hr1 ht
  go_enter Tryd.func36, Tryd.ntmps36
  go_wp2_with fail
  go_quiet (fail)
  go_wp2
  go_ret
  exact ⟨by simp, _, rfl⟩
theorem cell_any {w : World} {b : Nat} (P W a i : Nat) (c0 : w.cell? ⟨b, 0, none⟩ = some (.int .i64 P)) (c1 : w.cell? ⟨b, 1, none⟩ = some (.int .i64 W)) (hP : 1 ≤ P) (hP8 : P ≤ 8) (hW : W ≤ 6) (ha : a ≤ 64) (hi : i ≤ 6) :
    Calls Tryd.prog 56 #[.pointer (some ⟨b, 0, none⟩), .int .i64 a, .int .i64 i] w fun e w' => e = .returned (.int .i64 ((2 + a % P * W + i : Nat) : Int)) ∧ ∃ q, w' = w.drewN q := by
  have ht : (a : Int).tmod (P : Int) = ((a % P : Nat) : Int) := by rw [Int.tmod_eq_emod_of_nonneg (by omega)]; omega
  have hr1 : a % P < P := Nat.mod_lt _ (by omega)
  have w0 : IntKind.i64.wrap ((a : Int).tmod (P : Int)) = ((a % P : Nat) : Int) := by rw [ht, IntKind.wrap_i64]; omega
  have hp : a % P * W ≤ 8 * 6 := Nat.mul_le_mul (by omega) hW
  have w1 : IntKind.i64.wrap (((a % P : Nat) : Int) * (W : Int)) = ((a % P * W : Nat) : Int) := by rw [← Int.natCast_mul, IntKind.wrap_i64]; omega
  have w2 : IntKind.i64.wrap (2 + ((a % P * W : Nat) : Int)) = 2 + ((a % P * W : Nat) : Int) := by rw [IntKind.wrap_i64]; omega
  have w3 : IntKind.i64.wrap (2 + ((a % P * W : Nat) : Int) + (i : Int)) = ((2 + a % P * W + i : Nat) : Int) := by rw [IntKind.wrap_i64]; omega
  have hne1 : ¬ (P : Int) = 0 := by omega
  have hne2 : ¬ P = 0 := by omega
  generalize a % P * W = p at *
  generalize 2 + p + i = z at *
  generalize a % P = r at *
  clear hr1 hp
  rw [ht] at w0
  go_enter Tryd.func56, Tryd.ntmps56
  go_wp2_with fail
  go_quiet (fail)
  go_wp2
  go_ret
  exact ⟨rfl, _, rfl⟩
theorem get_any {w : World} {b mb lb : Nat} {l : List Int} {c : Int} (h : MemAt w mb lb l c) (c2 : w.cell? ⟨b, 2, none⟩ = some (.pointer (some ⟨mb, 0, none⟩))) (i : Nat) (hi : i < l.length) :
    Calls Tryd.prog 47 #[.pointer (some ⟨b, 0, none⟩), .int .i64 i] w fun e w' => e = .returned (.int .i64 l[i]) ∧ MemAt w' mb lb l (wrap64 (c + 1)) ∧ Only (memS mb lb) w w' := by
  have HR := Lib.hid (read_ok h i hi)
  clear h
  go_enter Tryd.func47, Tryd.ntmps47
  go_wp2_with fail
  refine HR.out.mono ?_
  rintro e w' ⟨rfl, hM, hO⟩
  have HM := Lib.hid hM
  have HO := Lib.hid hO
  clear hM hO HR
  go_wp2
  go_ret
  exact ⟨rfl, HM.out, HO.out⟩
end Go.Proofs.YtelfclcljdjohaaDoor
