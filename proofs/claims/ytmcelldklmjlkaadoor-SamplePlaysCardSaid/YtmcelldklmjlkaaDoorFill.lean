/- Rows of ints that a law makes and fills. (The triple seat holds some of them in TripleJ, L, M, Alone.) -/
import Derived.Test.YtmcelldklmjlkaaDoorCell
namespace Go.Proofs.YtmcelldklmjlkaaDoor
open Go.RowKit

theorem ints_new (w : World) (t : TypeId) (x : Int) : IntsIn (w.alloc (.cells #[.int .i64 x] t)) (.slice (some ⟨w.heap.size, 0, none⟩) 1 1) [x] := by
  refine ⟨_, 1, rfl, Nat.le_refl _, fun _ => ⟨w.heap.size, 0, rfl, fun i hi => ?_⟩⟩
  have h0 : i = 0 := by simp at hi; exact hi
  subst h0
  rw [World.cell?_alloc_at _ _ _ _ rfl]
  rfl
theorem IntsIn.form {w : World} {v : Value} {l : List Int} (h : IntsIn w v l) : ∃ A c, v = .slice A l.length c := by
  obtain ⟨A, c, rfl, _⟩ := h
  exact ⟨A, c, rfl⟩
theorem ints_blk {w : World} {g n : Nat} {l : List Int} (h : Blk w g 3 (nums l).toArray) (hl : l.length = n) : IntsIn w (.slice (some ⟨g, 0, none⟩) n n) l := by
  subst hl
  refine ⟨_, _, rfl, Nat.le_refl _, fun _ => ⟨g, 0, rfl, fun i hi => ?_⟩⟩
  rw [Nat.zero_add, h.cell i, List.getElem?_toArray]
  exact nums_get l i hi
theorem ints_made (w : World) (n : Nat) : IntsIn (w.alloc (.cells (madeCells #[.int .i64 0] n) 3)) (.slice (some ⟨w.heap.size, 0, none⟩) n n) (List.replicate n 0) := by
  have := Blk.new w 3 (madeCells #[.int .i64 0] n)
  rw [nums_zeros] at this ⊢
  exact ints_blk this (by simp)
theorem nums_set (l : List Int) (i : Nat) (x : Int) : (nums l).toArray.setIfInBounds i (.int .i64 x) = (nums (l.set i x)).toArray := by
  unfold nums; rw [List.setIfInBounds_toArray, List.map_set]
def fill (n k : Nat) (v u : Int) : List Int := List.replicate k v ++ List.replicate (n - k) u
theorem fill_len (n k : Nat) (v u : Int) (h : k ≤ n) : (fill n k v u).length = n := by simp [fill]; omega
theorem fill_all (n : Nat) (v u : Int) : fill n n v u = List.replicate n v := by simp [fill]
theorem fill_set (n k : Nat) (v u : Int) (h : k < n) : (fill n k v u).set k v = fill n (k + 1) v u := by
  apply List.ext_getElem?
  intro i
  unfold fill
  by_cases e : i = k
  · subst e
    rw [List.getElem?_set_self (by simp; omega), List.getElem?_append_left (by simp), List.getElem?_replicate, if_pos (by omega)]
  · rw [List.getElem?_set_ne (by omega)]
    rcases Nat.lt_or_ge i k with h' | h'
    · rw [List.getElem?_append_left (by simp; omega), List.getElem?_append_left (by simp; omega), List.getElem?_replicate, List.getElem?_replicate, if_pos h', if_pos (by omega)]
    · rw [List.getElem?_append_right (by simp; omega), List.getElem?_append_right (by simp; omega), List.getElem?_replicate, List.getElem?_replicate]
      simp only [List.length_replicate]
      by_cases h2 : i < n
      · rw [if_pos (by omega), if_pos (by omega)]
      · rw [if_neg (by omega), if_neg (by omega)]
theorem ints_rep {w : World} {v : Value} {n : Nat} {x : Int} (h : IntsIn w v (List.replicate n x)) (hn : 1 ≤ n) : ∃ g o cc, v = .slice (some ⟨g, o, none⟩) n cc ∧ n ≤ cc ∧ ∀ i, i < n → w.cell? ⟨g, o + i, none⟩ = some (.int .i64 x) := by
  obtain ⟨A, cc, rfl, hc, k⟩ := h
  simp only [List.length_replicate] at hc k ⊢
  obtain ⟨g, o, rfl, hcell⟩ := k (by omega)
  exact ⟨g, o, cc, rfl, hc, fun i hi => by have := hcell i (by omega); simpa using this⟩
end Go.Proofs.YtmcelldklmjlkaaDoor
