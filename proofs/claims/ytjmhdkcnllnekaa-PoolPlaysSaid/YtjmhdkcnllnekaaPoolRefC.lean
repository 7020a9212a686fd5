/- The reference's pool: the printed contracts of Of, Free, Give and Let, turned to the plain pool. -/
import Derived.Test.YtjmhdkcnllnekaaPoolRef
import Derived.Test.YtjmhdkcnllnekaaPoolOthers
import Derived.Test.YtjmhdkcnllnekaaPPoolPlaysx3
import Derived.Test.YtjmhdkcnllnekaaPPoolPlaysx4
namespace Go.Proofs.Ytjmhdkcnllnekaa
open Go.RowKit
open PPoolPlays
open Go.Proofs.YtjmhdkcnllnekaaW.PrintWords

theorem tks_len (p : PS) : (tks p).length = p.n := by simp [tks]
theorem ows_len (p : PS) : (ows p).length = p.n := by simp [ows]
theorem tus_len (p : PS) : (tus p).length = p.n := by simp [tus]
theorem rd_tks (p : PS) (i : Nat) (h : i < p.n) : rdOf false (tks p) (i : Int) = p.tk i := by simp [rdOf, tks, h]
theorem rd_ows (p : PS) (i : Nat) (h : i < p.n) : rd (ows p) (i : Int) = p.ow i := by simp [rd, ows, h]
theorem w64 (i : Nat) (h : i ≤ 1000000) : wrap64 ((i : Int) + 1) = ((i + 1 : Nat) : Int) := by unfold wrap64; omega
def intl (l : List Nat) : List Int := l.map fun i : Nat => (i : Int)
theorem of_f (p : PS) (o : Int) (hp : p.n ≤ 64) : ∀ (d k i : Nat) (l1 l2 : List Int) (acc : List Nat), l1 = ows p → i + d = p.n → d < k → acc = findTo p true o i →
    empennageref09_Of.l0 k o (intl acc) (i : Int) (tks p) l1 l2 = some (intl (ownOf p o))
  | d, 0, _, _, _, _, _, _, hk, _ => by omega
  | 0, k + 1, i, l1, l2, acc, _, hi, _, ha => by
    unfold empennageref09_Of.l0
    rw [if_neg (by rw [tks_len]; omega), ha, show i = p.n by omega]
    rfl
  | d + 1, k + 1, i, l1, l2, acc, h1, hi, hk, ha => by
    have hin : i < p.n := by omega
    have hal : acc.length ≤ 64 := by rw [ha]; exact Nat.le_trans (findTo_le p true o i) (by omega)
    unfold empennageref09_Of.l0
    rw [if_pos (by rw [tks_len]; omega), if_pos (by omega), rd_tks p i hin, w64 i (by omega)]
    have hs := findTo_succ p true o i
    by_cases ht : p.tk i = true
    · rw [if_pos ht, if_pos (by rw [h1, ows_len]; omega), h1, rd_ows p i hin]
      by_cases ho : p.ow i = o
      · rw [if_pos ho, if_pos (by simp [intl]; omega)]
        have e : intl acc ++ [(i : Int)] = intl (acc ++ [i]) := by simp [intl]
        rw [e]
        exact of_f p o hp d k (i + 1) _ l2 _ rfl (by omega) (by omega) (by rw [hs, ha]; simp [ht, ho])
      · rw [if_neg ho]
        exact of_f p o hp d k (i + 1) _ l2 _ rfl (by omega) (by omega) (by rw [hs, ha]; simp [ht, ho])
    · rw [if_neg ht]
      exact of_f p o hp d k (i + 1) _ l2 _ h1 (by omega) (by omega) (by rw [hs, ha]; simp [ht])
theorem free_f (p : PS) (hv : p.inv) (hp : p.n ≤ 64) : ∀ (d k i : Nat) (l1 l2 : List Int) (c : Nat), i + d = p.n → d < k → c = (findTo p false 0 i).length →
    empennageref09_Free.l0 k (c : Int) (i : Int) (tks p) l1 l2 = some ((freeOf p).length : Int)
  | d, 0, _, _, _, _, _, hk, _ => by omega
  | 0, k + 1, i, l1, l2, c, hi, _, ha => by
    unfold empennageref09_Free.l0
    rw [if_neg (by rw [tks_len]; omega), ha, show i = p.n by omega]
    rfl
  | d + 1, k + 1, i, l1, l2, c, hi, hk, ha => by
    have hin : i < p.n := by omega
    have hal : c ≤ 64 := by rw [ha]; exact Nat.le_trans (findTo_le p false 0 i) (by omega)
    unfold empennageref09_Free.l0
    rw [if_pos (by rw [tks_len]; omega), if_pos (by omega), rd_tks p i hin, w64 i (by omega)]
    have hs := findTo_succ p false 0 i
    by_cases ht : p.tk i = true
    · rw [if_pos ht]
      exact free_f p hv hp d k (i + 1) _ l2 _ (by omega) (by omega) (by rw [hs, ha]; simp [ht])
    · have ht' : p.tk i = false := by simpa using ht
      rw [if_neg ht, w64 c (by omega)]
      exact free_f p hv hp d k (i + 1) _ l2 _ (by omega) (by omega) (by rw [hs, ha]; simp [ht', hv i ht'])
theorem own_f (l0 : List Bool) (l1 l2 : List Int) (h0 : l0.length ≤ 64) (h1 : l1.length ≤ 64) (h2 : l2.length ≤ 64) : empennageref09_own.f l0 l1 l2 = some (l0, l1, l2) := by
  unfold empennageref09_own.f
  simp only [List.length_nil, Nat.zero_add, List.nil_append]
  rw [if_pos (by omega), if_pos (by omega), if_pos (by omega)]
theorem set_map {α : Type} (f g : Nat → α) (n k : Nat) (v : α) (hg : ∀ j, g j = if j = k then v else f j) : ((List.range n).map f).set k v = (List.range n).map g := by
  apply List.ext_getElem?
  intro j
  by_cases hj : j < n
  · by_cases e : j = k
    · subst e
      rw [List.getElem?_set_self (by simpa using hj)]
      simp [hj, hg]
    · rw [List.getElem?_set_ne (by omega)]
      simp [hj, hg, e]
  · rw [List.getElem?_eq_none (by simp; omega), List.getElem?_eq_none (by simp; omega)]
theorem give_f (p : PS) (hp : p.n ≤ 64) (i o : Int) (k : Nat) : empennageref09_Give.f (k + 1) (tks p) (ows p) (tus p) i o = some (tks (p.give i o).1, ows (p.give i o).1, tus (p.give i o).1, (p.give i o).2) := by
  unfold empennageref09_Give.f PS.give
  by_cases h0 : i < 0
  · rw [if_pos h0, if_pos (.inl h0)]
    rw [empennageref09_Give.j0]
    rw [if_pos rfl]
  rw [if_neg h0]
  by_cases h1 : (p.n : Int) ≤ i
  · rw [if_pos (.inr h1)]
    rw [empennageref09_Give.j0]
    rw [if_pos (by rw [tks_len]; simpa using h1)]
  rw [if_neg (by omega)]
  obtain ⟨j, rfl⟩ := Int.eq_ofNat_of_zero_le (show 0 ≤ i by omega)
  have hj : j < p.n := by omega
  simp only [Int.toNat_natCast]
  rw [empennageref09_Give.j0]
  rw [if_neg (by rw [tks_len]; simp; omega), if_pos (by omega), if_pos (by rw [tks_len]; omega), rd_tks p j hj]
  by_cases h2 : p.tk j = false
  · rw [if_neg (by simp [h2]), if_pos h2]
  have h2' : p.tk j = true := by simpa using h2
  rw [if_pos h2', if_neg h2, if_pos (by rw [ows_len]; omega), rd_ows p j hj]
  by_cases h3 : p.ow j = o
  · rw [if_pos h3, if_neg (by simpa using h3), own_f _ _ _ (by rw [tks_len]; omega) (by rw [ows_len]; omega) (by rw [tus_len]; omega)]
    simp only [Option.bind_some, Int.toNat_natCast]
    rw [if_pos (by rw [tks_len]; omega), if_pos (by rw [ows_len]; omega)]
    have e0 : (tks p).set j false = tks (p.set j false 0) := set_map _ _ _ _ _ fun _ => rfl
    have e1 : (ows p).set j 0 = ows (p.set j false 0) := set_map _ _ _ _ _ fun _ => rfl
    rw [e0, e1]
    rfl
  · rw [if_neg h3, if_pos h3]
theorem rd_intl (l : List Nat) (i : Nat) (h : i < l.length) : rd (intl l) (i : Int) = (l[i] : Nat) := by simp [rd, intl, h]
theorem let_f (p : PS) (o : Int) (hp : p.n ≤ 64) : ∀ (d k i : Nat), i + d = (ownOf p o).length → d + 1 < k →
    empennageref09_Let.l0 k o (intl (ownOf p o)) (i : Int) (tks (p.gave ((ownOf p o).take i))) (ows (p.gave ((ownOf p o).take i))) (tus (p.gave ((ownOf p o).take i))) = some (tks (p.lets o), ows (p.lets o), tus (p.lets o), ((ownOf p o).length : Int))
  | d, 0, _, _, hk => by omega
  | 0, k + 1, i, hi, _ => by
    unfold empennageref09_Let.l0
    rw [if_neg (by simp [intl]; omega), List.take_of_length_le (by omega)]
    simp [intl, PS.lets]
  | d + 1, k + 1, i, hi, hk => by
    have hin : i < (ownOf p o).length := by omega
    have hl : (ownOf p o).length ≤ 64 := Nat.le_trans (findTo_le p true o p.n) hp
    obtain ⟨k', rfl⟩ : ∃ k', k = k' + 1 := ⟨k - 1, by omega⟩
    unfold empennageref09_Let.l0
    rw [if_pos (by simp [intl]; omega), if_pos (by omega), rd_intl _ i hin, give_f (p.gave ((ownOf p o).take i)) hp, w64 i (by omega)]
    simp only [Option.bind_some]
    have hmem := ownOf_mem p o _ (List.getElem_mem hin)
    have hnd : (ownOf p o)[i] ∉ (ownOf p o).take i := by
      have h := ownOf_nodup p o
      intro hm
      obtain ⟨j, hj, he⟩ := List.getElem_of_mem hm
      rw [List.getElem_take] at he
      have hj' : j < i := by
        have := hj
        rw [List.length_take] at this
        omega
      exact List.pairwise_iff_getElem.1 h j i (by omega) hin hj' he
    have hg : ((p.gave ((ownOf p o).take i)).give (((ownOf p o)[i] : Nat) : Int) o).1 = p.gave ((ownOf p o).take (i + 1)) := by
      unfold PS.give
      rw [if_neg (by rintro (h | h); omega; have := hmem.1; have h : (p.n : Int) ≤ ((ownOf p o)[i] : Nat) := h; omega)]
      simp only [Int.toNat_natCast]
      rw [if_neg (by simp [PS.gave, hnd, hmem.2.1]), if_neg (by simp [PS.gave, hnd, hmem.2.2]), gave_snoc, List.take_succ_eq_append_getElem hin]
    rw [hg]
    exact let_f p o hp d (k' + 1) (i + 1) (by omega) (by omega)
end Go.Proofs.Ytjmhdkcnllnekaa
