/- Messages through a ring: the others, as the laws see them. -/
import Derived.Test.YtelfclcljdjohaaDoorRingQ
namespace Go.Proofs.YtelfclcljdjohaaDoor
open Go.RowKit

theorem ok_new (P W : Nat) (h1 : 1 ≤ P) (h8 : P ≤ 8) (g1 : 1 ≤ W) (g6 : W ≤ 6) : (RS.new P W).ok := by
  have hpw : 1 * 1 ≤ P * W := Nat.mul_le_mul h1 g1
  have e0 : (RS.new P W).hd = 0 := by
    simp only [RS.hd, RS.new]; rw [List.getElem?_replicate, if_pos (by omega)]; rfl
  have e1 : (RS.new P W).tl = 0 := by
    simp only [RS.tl, RS.new]; rw [List.getElem?_replicate, if_pos (by omega)]; rfl
  exact ⟨h1, h8, g1, g6, by simp [RS.new], by rw [e0]; simp only [RS.new]; rw [List.getElem?_replicate, if_pos (by omega)]; rfl, by rw [e0]; simp only [RS.new]; omega, by rw [e1]; simp only [RS.new]; rw [List.getElem?_replicate, if_pos (by omega)]; rfl, by rw [e1]; simp only [RS.new]; omega, by simp [RS.new], by simp [RS.new], by simp only [RS.new]; omega, by simp only [RS.new]; omega, by simp only [RS.new]; omega, by simp only [RS.new]; omega, by simp [RS.new], fun e => by simp [RS.new] at e, by simp [RS.new]⟩
def RS.pushed (s : RS) (l : List Int) : RS := { s with ia := 1, il := l, inn := 0 }
def RS.popped (s : RS) : RS := { s with oa := 1, ol := [] }
section
variable {W w : World} {b mb lb : Nat} {X : Nat → Prop} {s : RS}
theorem ctx_new (n m : Int) (h : Below W.heap.size W w) :
    Calls Tryd.prog 10 #[.int .i64 n, .int .i64 m] w fun e w' => ∃ b mb lb, e = .returned (.pointer (some ⟨b, 0, none⟩)) ∧ Below w.heap.size w w' ∧ Ctx W w' b mb lb (fun _ => False) (RS.new (placesOf n) (wordsOf m)) :=
  (rnew_any n m W.heap.size w h.size).mono fun _ _ ⟨b, mb, lb, he, g1, g2, g3, _, hT, hB⟩ => ⟨b, mb, lb, he, hB, ⟨_, _, _, hT⟩, ok_new _ _ (placesOf_bd n).1 (placesOf_bd n).2 (wordsOf_bd m).1 (wordsOf_bd m).2, h.trans (hB.mono h.size), Nat.le_trans h.size g1, Nat.le_trans h.size g2, Nat.le_trans h.size g3, fun _ e => e.elim⟩
theorem ctx_push (h : Ctx W w b mb lb X s) {v : Value} {l : List Int} (hia : s.ia = 0) (hv : IntsIn w v l) (hl : l.length = s.W) (hr : ∀ x ∈ l, okWord x) :
    Calls Tryd.prog 17 #[.pointer (some ⟨b, 0, none⟩), v] w fun e w' => e = .returned (.int .i64 0) ∧ Ctx W w' b mb lb X (s.pushed l) ∧ Kept X w w' := by
  obtain ⟨vi, vo, c, hT⟩ := h.at_
  have k := h.ok
  have hk : (s.pushed l).ok := ⟨k.p1, k.p8, k.w1, k.w6, k.len, k.h, k.h2, k.t, k.t2, by simp [RS.pushed], k.oa, k.ih, k.it, k.oh, k.ot, by simp [RS.pushed], fun _ => ⟨hl, hr⟩, k.ol⟩
  exact (push_begin hT h.ok h.bel.size hia hv hl hr).mono fun e w' ⟨he, vi', hT', hO⟩ => ⟨he, h.step hT ⟨_, _, _, hT'⟩ hk (only_turn vo hO)⟩
theorem ctx_pop (h : Ctx W w b mb lb X s) (hoa : s.oa = 0) :
    Calls Tryd.prog 20 #[.pointer (some ⟨b, 0, none⟩)] w fun e w' => e = .returned (.int .i64 0) ∧ Ctx W w' b mb lb X s.popped ∧ Kept X w w' := by
  obtain ⟨vi, vo, c, hT⟩ := h.at_
  have k := h.ok
  have hk : s.popped.ok := ⟨k.p1, k.p8, k.w1, k.w6, k.len, k.h, k.h2, k.t, k.t2, k.ia, by simp [RS.popped], k.ih, k.it, k.oh, k.ot, k.inn, k.il, by simp [RS.popped]⟩
  exact (pop_begin hT hoa).mono fun e w' ⟨he, hT', hO⟩ => ⟨he, h.step hT ⟨_, _, _, hT'⟩ hk (only_turn vo hO)⟩
def RS.dropped (s : RS) : Bool → RS
  | true => { s with ia := 0 }
  | false => { s with oa := 0 }
theorem ok_dropped (k : s.ok) (x : Bool) : (s.dropped x).ok := by
  cases x
  · exact ⟨k.p1, k.p8, k.w1, k.w6, k.len, k.h, k.h2, k.t, k.t2, k.ia, by simp [RS.dropped], k.ih, k.it, k.oh, k.ot, k.inn, k.il, k.ol⟩
  · exact ⟨k.p1, k.p8, k.w1, k.w6, k.len, k.h, k.h2, k.t, k.t2, by simp [RS.dropped], k.oa, k.ih, k.it, k.oh, k.ot, k.inn, fun e => by simp [RS.dropped] at e, k.ol⟩
theorem ctx_drop (h : Ctx W w b mb lb X s) (x : Bool) :
    Calls Tryd.prog 19 #[.pointer (some ⟨b, 0, none⟩), .bool x] w fun e w' => e = .returned (.bool (!decide ((if x then s.ia else s.oa) = 0))) ∧ Ctx W w' b mb lb X (s.dropped x) ∧ Kept X w w' := by
  obtain ⟨vi, vo, c, hT⟩ := h.at_
  have hk := ok_dropped h.ok x
  cases x
  · by_cases h0 : s.oa = 0
    · have e : s.dropped false = s := by simp only [RS.dropped, ← h0]
      rw [e]
      simp only [Bool.false_eq_true, if_false, decide_eq_true h0]
      exact (drop_r0 hT h0).mono fun _ _ ⟨he, hw⟩ => ⟨he, hw ▸ h, hw ▸ fun _ _ => rfl⟩
    · simp only [Bool.false_eq_true, if_false, decide_eq_false h0]
      exact (drop_r hT h0).mono fun _ _ ⟨he, hT', hO⟩ => ⟨he, h.step hT ⟨_, _, _, hT'⟩ hk (only_turn vo hO)⟩
  · by_cases h0 : s.ia = 0
    · have e : s.dropped true = s := by simp only [RS.dropped, ← h0]
      rw [e]
      simp only [if_true, decide_eq_true h0]
      exact (drop_w0 hT h0).mono fun _ _ ⟨he, hw⟩ => ⟨he, hw ▸ h, hw ▸ fun _ _ => rfl⟩
    · simp only [if_true, decide_eq_false h0]
      exact (drop_w hT h0).mono fun _ _ ⟨he, hT', hO⟩ => ⟨he, h.step hT ⟨_, _, _, hT'⟩ hk (only_turn vo hO)⟩
theorem ctx_cells (h : Ctx W w b mb lb X s) :
    Calls Tryd.prog 26 #[.pointer (some ⟨b, 0, none⟩)] w fun e w' => ∃ v, e = .returned v ∧ IntsIn w' v s.mem ∧ Below w.heap.size w w' := by
  obtain ⟨vi, vo, c, hT⟩ := h.at_
  exact (cells_any hT).mono fun _ _ ⟨v, he, ho, hb⟩ => ⟨v, he, IntsIn.of_own ho rfl, hb⟩
end
end Go.Proofs.YtelfclcljdjohaaDoor
