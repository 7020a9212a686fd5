/- Slices of ints as lists; the reference's Same, where the two are the same. -/
import Derived.Test.YtmcelldklmjlkaaDoorKit
namespace Go.Proofs.YtmcelldklmjlkaaDoor
open Go.RowKit

/-- v is a slice that reads as the list l (nil is the empty one). -/
def IntsIn (w : World) (v : Value) (l : List Int) : Prop :=
  ∃ A c, v = .slice A l.length c ∧ l.length ≤ c ∧ (0 < l.length → ∃ g o, A = some ⟨g, o, none⟩ ∧ ∀ i (h : i < l.length), w.cell? ⟨g, o + i, none⟩ = some (.int .i64 l[i]))
theorem IntsIn.nil (w : World) : IntsIn w (.slice none 0 0) [] := ⟨none, 0, rfl, Nat.le_refl _, fun h => by simp at h⟩
theorem IntsIn.keep {w w' : World} {v : Value} {l : List Int} (h : IntsIn w v l) (hk : ∀ g, g < w.heap.size → w'.heap[g]? = w.heap[g]?) : IntsIn w' v l := by
  obtain ⟨A, c, rfl, hl, hc⟩ := h
  refine ⟨A, c, rfl, hl, fun hp => ?_⟩
  obtain ⟨g, o, rfl, hcell⟩ := hc hp
  exact ⟨g, o, rfl, fun i hi => (World.cell?_of_block (a := ⟨g, o + i, none⟩) (hk g (World.block_lt_of_cell? _ _ (hcell i hi)))).trans (hcell i hi)⟩
theorem IntsIn.below {w w' : World} {v : Value} {l : List Int} (h : IntsIn w v l) (hb : Below w.heap.size w w') : IntsIn w' v l := h.keep fun g hg => hb.block g hg
theorem IntsIn.drewN {w : World} {v : Value} {l : List Int} (h : IntsIn w v l) (n : Nat) : IntsIn (w.drewN n) v l := h.keep fun _ _ => rfl
theorem IntsIn.of_own {w : World} {base n : Nat} {e : TypeId} {v : Value} {xs : List Value} {l : List Int} (h : w.ownsRow base e 1 v n xs) (hx : xs = l.map (Value.int .i64)) : IntsIn w v l := by
  have hn : n = l.length := by have := h.1; rw [hx] at this; simpa using this.symm
  subst hn
  rcases Nat.eq_zero_or_pos l.length with h0 | hp
  · rcases h.2 with ⟨rfl, _⟩ | ⟨g, cap, cur, rfl, _, _, hnc, _⟩
    · exact ⟨none, 0, by rw [h0], by omega, fun h => by omega⟩
    · exact ⟨_, _, rfl, hnc, fun h => by omega⟩
  · obtain ⟨g, cap, rfl, _, _, hnc, hc, _⟩ := own_pos h hp
    refine ⟨_, _, rfl, hnc, fun _ => ⟨g, 0, rfl, fun i hi => ?_⟩⟩
    rw [Nat.zero_add, hc i (by omega), hx]
    simp [hi]

theorem same_yes {w : World} {v1 v2 : Value} {l : List Int} (h1 : IntsIn w v1 l) (h2 : IntsIn w v2 l) (hl : l.length ≤ 1073741824) :
    Calls Tryd.prog 28 #[v1, v2] w fun e w' => e = .returned (.bool true) ∧ ∃ n, w' = w.drewN n := by
  obtain ⟨A1, c1, rfl, hc1, k1⟩ := h1
  obtain ⟨A2, c2, rfl, hc2, k2⟩ := h2
  have K1 := Lib.hid k1
  have K2 := Lib.hid k2
  clear k1 k2
  have HL := Lib.hid (show ∀ i (h : i < l.length), l[i]? = some l[i] from fun i h => List.getElem?_eq_getElem h)
  go_enter Tryd.func28, Tryd.ntmps28
  go_wp2
  go_loopw [5] (fun i wr => ∃ k : Nat, k ≤ l.length ∧ i = .int .i64 k ∧ ∃ n, wr = w.drewN n) (fun i _ => l.length - (intOf i).toNat)
  case atStart => exact ⟨0, Nat.zero_le _, rfl, 0, rfl⟩
  case round =>
    obtain ⟨k, hk, rfl, n, rfl⟩ := hrel
    by_cases hlt : k < l.length
    · obtain ⟨g1, o1, rfl, d1⟩ := K1.out (by omega)
      obtain ⟨g2, o2, rfl, d2⟩ := K2.out (by omega)
      have e1 := d1 k hlt
      have e2 := d2 k hlt
      have b0 : (0 : Int) ≤ (k : Int) := by omega
      have b1 : (k : Int) < (l.length : Int) := by omega
      clear d1 d2
      generalize l[k] = x at e1 e2
      go_wp2
      go_quiet (fail)
      go_wp2
      go_roundw
      case rel => exact ⟨k + 1, by omega, by go_num, _, rfl⟩
      case measure => simp [intOf]; omega
    · obtain rfl : k = l.length := by omega
      go_wp2
      go_ret
      exact ⟨rfl, _, rfl⟩
end Go.Proofs.YtmcelldklmjlkaaDoor
