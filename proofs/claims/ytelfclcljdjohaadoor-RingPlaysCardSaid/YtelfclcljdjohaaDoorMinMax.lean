/- slices.Min and slices.Max of numbers. (The triple seat holds the same in TripleF.) -/
import Derived.Test.YtelfclcljdjohaaDoorSame
namespace Go.Proofs.YtelfclcljdjohaaDoor
open Go.RowKit

set_option maxHeartbeats 800000 in
theorem min_any {w : World} {v : Value} {l : List Int} (h : IntsIn w v l) (hp : 0 < l.length) (hl : l.length ≤ 65536) :
    Calls Tryd.prog 38 #[v] w fun e w' => ∃ m : Int, e = .returned (.int .i64 m) ∧ m ∈ l ∧ (∀ v ∈ l, m ≤ v) ∧ w = w' := by
  obtain ⟨A, c, rfl, hc, k⟩ := h
  obtain ⟨g, o, rfl, hcell⟩ := k hp
  have HC := Lib.hid hcell
  have c0 := hcell 0 hp
  simp only [Nat.add_zero] at c0
  have b0 : (0 : Int) < (l.length : Int) := by omega
  have b1 : ¬ (l.length : Int) < 1 := by omega
  clear k hcell
  have hx0 : ∃ x0, l[0] = x0 := ⟨_, rfl⟩
  obtain ⟨x0, hx0⟩ := hx0
  rw [hx0] at c0
  have HX0 := Lib.hid hx0
  clear hx0
  go_enter Tryd.func38, Tryd.ntmps38
  go_wp2
  go_loop [3, 4] (fun mm i => ∃ (k : Nat) (m : Int), 1 ≤ k ∧ k ≤ l.length ∧ i = .int .i64 k ∧ mm = .int .i64 m ∧ m ∈ l ∧ ∀ j (h : j < l.length), j < k → m ≤ l[j]) (fun _ i => l.length - (intOf i).toNat)
  case atStart => exact ⟨1, x0, by omega, by omega, rfl, rfl, by rw [← HX0.out]; exact List.getElem_mem _, fun j hj hk => by
    have : j = 0 := by omega
    subst this
    have := HX0.out
    omega⟩
  case round =>
    obtain ⟨k, m, hk1, hk, rfl, rfl, hmem, hall⟩ := hrel
    have HM := Lib.hid hmem
    have HA := Lib.hid hall
    clear hmem hall
    by_cases hlt : k < l.length
    · have ck := HC.out k hlt
      have hxk : ∃ y, l[k] = y := ⟨_, rfl⟩
      obtain ⟨y, hy⟩ := hxk
      rw [hy] at ck
      have HY := Lib.hid hy
      clear hy
      have b2 : (k : Int) < (l.length : Int) := by omega
      have b3 : (0 : Int) ≤ (k : Int) := by omega
      by_cases hxy : m ≤ y
      all_goals
        go_wp2
        all_goals
          go_round
          case rel =>
            refine ⟨k + 1, _, by omega, by omega, by go_num, rfl, ?_, fun j hj hjk => ?_⟩
            · have hym : y ∈ l := by rw [← HY.out]; exact List.getElem_mem _
              first | exact HM.out | exact hym | (split <;> first | exact hym | exact HM.out)
            · rcases Nat.lt_or_ge j k with h' | h'
              · have := HA.out j hj h'
                omega
              · have : j = k := by omega
                subst this
                have := HY.out
                first | omega | (split <;> omega)
          case measure => simp [intOf]; omega
    · obtain rfl : k = l.length := by omega
      go_wp2
      go_ret
      refine ⟨m, rfl, HM.out, fun v hv => ?_, rfl⟩
      obtain ⟨j, hj, rfl⟩ := List.getElem_of_mem hv
      exact HA.out j hj hj

set_option maxHeartbeats 800000 in
theorem max_any {w : World} {v : Value} {l : List Int} (h : IntsIn w v l) (hp : 0 < l.length) (hl : l.length ≤ 65536) :
    Calls Tryd.prog 39 #[v] w fun e w' => ∃ m : Int, e = .returned (.int .i64 m) ∧ m ∈ l ∧ (∀ v ∈ l, v ≤ m) ∧ w = w' := by
  obtain ⟨A, c, rfl, hc, k⟩ := h
  obtain ⟨g, o, rfl, hcell⟩ := k hp
  have HC := Lib.hid hcell
  have c0 := hcell 0 hp
  simp only [Nat.add_zero] at c0
  have b0 : (0 : Int) < (l.length : Int) := by omega
  have b1 : ¬ (l.length : Int) < 1 := by omega
  clear k hcell
  have hx0 : ∃ x0, l[0] = x0 := ⟨_, rfl⟩
  obtain ⟨x0, hx0⟩ := hx0
  rw [hx0] at c0
  have HX0 := Lib.hid hx0
  clear hx0
  go_enter Tryd.func39, Tryd.ntmps39
  go_wp2
  go_loop [3, 4] (fun mm i => ∃ (k : Nat) (m : Int), 1 ≤ k ∧ k ≤ l.length ∧ i = .int .i64 k ∧ mm = .int .i64 m ∧ m ∈ l ∧ ∀ j (h : j < l.length), j < k → l[j] ≤ m) (fun _ i => l.length - (intOf i).toNat)
  case atStart => exact ⟨1, x0, by omega, by omega, rfl, rfl, by rw [← HX0.out]; exact List.getElem_mem _, fun j hj hk => by
    have : j = 0 := by omega
    subst this
    have := HX0.out
    omega⟩
  case round =>
    obtain ⟨k, m, hk1, hk, rfl, rfl, hmem, hall⟩ := hrel
    have HM := Lib.hid hmem
    have HA := Lib.hid hall
    clear hmem hall
    by_cases hlt : k < l.length
    · have ck := HC.out k hlt
      have hxk : ∃ y, l[k] = y := ⟨_, rfl⟩
      obtain ⟨y, hy⟩ := hxk
      rw [hy] at ck
      have HY := Lib.hid hy
      clear hy
      have b2 : (k : Int) < (l.length : Int) := by omega
      have b3 : (0 : Int) ≤ (k : Int) := by omega
      by_cases hxy : m ≤ y
      all_goals
        go_wp2
        all_goals
          go_round
          case rel =>
            refine ⟨k + 1, _, by omega, by omega, by go_num, rfl, ?_, fun j hj hjk => ?_⟩
            · have hym : y ∈ l := by rw [← HY.out]; exact List.getElem_mem _
              first | exact HM.out | exact hym | (split <;> first | exact hym | exact HM.out)
            · rcases Nat.lt_or_ge j k with h' | h'
              · have := HA.out j hj h'
                omega
              · have : j = k := by omega
                subst this
                have := HY.out
                first | omega | (split <;> omega)
          case measure => simp [intOf]; omega
    · obtain rfl : k = l.length := by omega
      go_wp2
      go_ret
      refine ⟨m, rfl, HM.out, fun v hv => ?_, rfl⟩
      obtain ⟨j, hj, rfl⟩ := List.getElem_of_mem hv
      exact HA.out j hj hj

def okWord (v : Int) : Prop := 0 ≤ v ∧ v ≤ 2147483647
end Go.Proofs.YtelfclcljdjohaaDoor
