/- Plain facts on a pool's state. -/
import Derived.Test.YtjmhdkcnllnekaaPoolLaw
namespace Go.Proofs.Ytjmhdkcnllnekaa
open Go.RowKit
def PS.inv (p : PS) : Prop := ∀ i, p.tk i = false → p.ow i = 0
theorem inv_new (n : Nat) : (PS.new n).inv := fun _ _ => rfl
theorem inv_set {p : PS} (h : p.inv) (i : Nat) (t : Bool) (o : Int) (ht : t = true ∨ o = 0) : (p.set i t o).inv := by
  intro j hj
  simp only [PS.set] at hj ⊢
  split
  · rename_i e
    rw [if_pos e] at hj
    rcases ht with ht | ht
    · rw [ht] at hj; cases hj
    · exact ht
  · rename_i e
    rw [if_neg e] at hj
    exact h j hj
theorem inv_take {p : PS} (h : p.inv) (o : Int) : (p.take o).1.inv := by
  unfold PS.take
  split
  · exact h
  · exact inv_set h _ _ _ (.inl rfl)
theorem inv_give {p : PS} (h : p.inv) (i o : Int) : (p.give i o).1.inv := by
  unfold PS.give
  repeat' split
  all_goals first | exact h | exact inv_set h _ _ _ (.inr rfl)
theorem inv_lets {p : PS} (h : p.inv) (o : Int) : (p.lets o).inv := by
  intro j hj
  simp only [PS.lets, PS.gave] at hj ⊢
  split
  · rfl
  · rename_i e
    rw [if_neg e] at hj
    exact h j hj
theorem findTo_mem (p : PS) (t : Bool) (o : Int) (k i : Nat) : i ∈ findTo p t o k ↔ i < k ∧ p.tk i = t ∧ p.ow i = o := by
  simp [findTo]
theorem findTo_sorted (p : PS) (t : Bool) (o : Int) (k : Nat) : (findTo p t o k).Pairwise (· < ·) :=
  List.pairwise_lt_range.filter _
theorem free_mem {p : PS} (h : p.inv) (i : Nat) : i ∈ freeOf p ↔ i < p.n ∧ p.tk i = false := by
  unfold freeOf
  rw [findTo_mem]
  exact ⟨fun ⟨a, b, _⟩ => ⟨a, b⟩, fun ⟨a, b⟩ => ⟨a, b, h i b⟩⟩
theorem free_head {p : PS} {i : Nat} {rest : List Nat} (hf : freeOf p = i :: rest) : i < p.n ∧ p.tk i = false ∧ p.ow i = 0 :=
  (findTo_mem p false 0 p.n i).1 (by rw [show findTo p false 0 p.n = i :: rest from hf]; simp)
theorem free_lowest {p : PS} (h : p.inv) {i : Nat} {rest : List Nat} (hf : freeOf p = i :: rest) (k : Nat) (hk : k < i) : p.tk k = true := by
  have hs := findTo_sorted p false 0 p.n
  rw [show findTo p false 0 p.n = i :: rest from hf] at hs
  cases ht : p.tk k with
  | true => rfl
  | false =>
    have hm : k ∈ freeOf p := (free_mem h k).2 ⟨Nat.lt_trans hk (free_head hf).1, ht⟩
    rw [hf] at hm
    rcases List.mem_cons.1 hm with e | e
    · omega
    · have := (List.pairwise_cons.1 hs).1 k e
      omega
theorem free_take {p : PS} {i : Nat} {rest : List Nat} (hf : freeOf p = i :: rest) (o : Int) : freeOf ((p.set i true o).up i) = rest := by
  have hs := findTo_sorted p false 0 p.n
  have hf' : findTo p false 0 p.n = i :: rest := hf
  rw [hf'] at hs
  have e : freeOf ((p.set i true o).up i) = (findTo p false 0 p.n).filter (fun j => decide (j ≠ i)) := by
    unfold freeOf findTo
    rw [List.filter_filter]
    apply List.filter_congr
    intro j _
    simp only [PS.up, PS.set]
    by_cases e : j = i
    · simp [e]
    · simp [e]
  rw [e, hf', List.filter_cons]
  simp only [ne_eq, not_true_eq_false, decide_false, Bool.false_eq_true, if_false]
  rw [List.filter_eq_self]
  intro j hj
  have := (List.pairwise_cons.1 hs).1 j hj
  simp; omega
theorem free_le (p : PS) : (freeOf p).length ≤ p.n := findTo_le p false 0 p.n
theorem take_cons {p : PS} {i : Nat} {rest : List Nat} (hf : freeOf p = i :: rest) (o : Int) : p.take o = ((p.set i true o).up i, (i : Int), 0) := by
  unfold PS.take; rw [hf]
theorem take_empty {p : PS} (hf : freeOf p = []) (o : Int) : p.take o = (p, -1, 10) := by
  unfold PS.take; rw [hf]

theorem ctx_owner {W w : World} {b : Nat} {p : PS} (h : Ctx W w b p) (i : Nat) (hi : i < p.n) :
    Calls Try.prog 18 #[.pointer (some ⟨b, 0, none⟩), .int .i64 i] w fun e w' => e = .returned (.tuple #[.int .i64 (p.ow i), .bool (p.tk i)]) ∧ ∃ n, w' = w.drewN n := owner_in b p i w h.at_ hi
/-- as ctx_take_eq, and only the pool's block has turned. -/
theorem ctx_take_only {W w : World} {b : Nat} {p p' : PS} {i x : Int} (h : Ctx W w b p) (o : Int) {N : Nat} (ht : p.tuLe N) (hN : N ≤ 1000000) (hr : p.take o = (p', i, x)) :
    Calls Try.prog 12 #[.pointer (some ⟨b, 0, none⟩), .int .i64 o] w fun e w' => e = .returned (.tuple #[.int .i64 i, .int .i64 x]) ∧ Ctx W w' b p' ∧ w.grownBy w' (some b) := by
  cases hf : freeOf p with
  | nil =>
    rw [take_empty hf] at hr
    obtain ⟨rfl, rfl, rfl⟩ := hr
    exact (take_none b p o w h.at_ hf).mono fun _ _ ⟨he, hB⟩ => ⟨he, h.below hB, only_of_below hB _⟩
  | cons j rest =>
    rw [take_cons hf] at hr
    obtain ⟨rfl, rfl, rfl⟩ := hr
    exact (take_some b p o w h.at_ j rest hf ⟨(ht j).1, by have := (ht j).2; omega⟩).mono fun _ _ ⟨he, hP, hG⟩ => ⟨he, h.only hP hG, hG⟩
end Go.Proofs.Ytjmhdkcnllnekaa
