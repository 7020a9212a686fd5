/- A memory of words, in plain lists: what an access answers, and turns. -/
import Derived.Test.YtkamcjejongmbaaDoorKit
namespace Go.Proofs.YtkamcjejongmbaaDoor
open Go.RowKit

/-- Why an access of the cell i of n, with the word v, is refused (0: it is not). -/
def why (n : Nat) (i v : Int) : Int := if i < 0 ∨ (n : Int) ≤ i then 7 else if v < 0 ∨ 2147483647 < v then 3 else 0
/-- Words, and how many accesses. -/
structure CS where
  l : List Int
  c : Nat
def CS.why (s : CS) (i v : Int) : Int := Go.Proofs.YtkamcjejongmbaaDoor.why s.l.length i v
def CS.val (s : CS) (i : Int) : Int := s.l.getD i.toNat 0
def CS.read (s : CS) (i : Int) : CS × Int × Int := if s.why i 0 = 0 then (⟨s.l, s.c + 1⟩, s.val i, 0) else (s, 0, s.why i 0)
def CS.swap (s : CS) (i v : Int) : CS × Int × Int := if s.why i v = 0 then (⟨s.l.set i.toNat v, s.c + 1⟩, s.val i, 0) else (s, 0, s.why i v)
def zeroed (l : List Int) (a n : Nat) : List Int := l.take a ++ (List.replicate n 0 ++ l.drop (a + n))
def CS.fits (s : CS) (a n : Int) : Prop := 0 ≤ n ∧ 0 ≤ a ∧ a + n ≤ s.l.length
instance (s : CS) (a n : Int) : Decidable (s.fits a n) := inferInstanceAs (Decidable (0 ≤ n ∧ 0 ≤ a ∧ a + n ≤ s.l.length))
def CS.reset (s : CS) (a n : Int) : CS × Int := if s.fits a n then (⟨zeroed s.l a.toNat n.toNat, s.c⟩, 0) else (s, 7)
theorem why_cases (n : Nat) (i v : Int) : (why n i v = 0 ∧ 0 ≤ i ∧ i < n ∧ 0 ≤ v ∧ v ≤ 2147483647) ∨ (why n i v = 7 ∧ (i < 0 ∨ (n : Int) ≤ i)) ∨ (why n i v = 3 ∧ 0 ≤ i ∧ i < n ∧ (v < 0 ∨ 2147483647 < v)) := by
  unfold why
  split
  · right; left; constructor <;> first | rfl | omega
  · split
    · right; right; constructor <;> first | rfl | omega
    · left; constructor <;> first | rfl | omega
theorem swap_len (s : CS) (i v : Int) : (s.swap i v).1.l.length = s.l.length := by unfold CS.swap; split <;> simp
theorem read_l (s : CS) (i : Int) : (s.read i).1.l = s.l := by unfold CS.read; split <;> rfl
theorem zeroed_len (l : List Int) (a n : Nat) (h : a + n ≤ l.length) : (zeroed l a n).length = l.length := by simp [zeroed]; omega
theorem reset_len (s : CS) (a n : Int) : (s.reset a n).1.l.length = s.l.length := by
  unfold CS.reset
  split
  · next h => unfold CS.fits at h; exact zeroed_len _ _ _ (by omega)
  · rfl
theorem reset_c (s : CS) (a n : Int) : (s.reset a n).1.c = s.c := by unfold CS.reset; split <;> rfl
theorem read_c (s : CS) (i : Int) : (s.read i).1.c ≤ s.c + 1 := by unfold CS.read; split <;> simp
theorem swap_c (s : CS) (i v : Int) : (s.swap i v).1.c ≤ s.c + 1 := by unfold CS.swap; split <;> simp
theorem zeroed_get (l : List Int) (a n j : Nat) (h : a + n ≤ l.length) (hj : j < l.length) : (zeroed l a n)[j]? = if a ≤ j ∧ j < a + n then some 0 else l[j]? := by
  unfold zeroed
  rcases Nat.lt_or_ge j a with h1 | h1
  · rw [if_neg (by omega), List.getElem?_append_left (by simp; omega), List.getElem?_take, if_pos h1]
  · rw [List.getElem?_append_right (by simp; omega), List.length_take, Nat.min_eq_left (by omega)]
    rcases Nat.lt_or_ge j (a + n) with h2 | h2
    · rw [if_pos ⟨h1, h2⟩, List.getElem?_append_left (by simp; omega), List.getElem?_replicate, if_pos (by omega)]
    · rw [if_neg (by omega), List.getElem?_append_right (by simp; omega), List.getElem?_drop, List.length_replicate]
      congr 1
      omega
end Go.Proofs.YtkamcjejongmbaaDoor
