/- Messages through a ring: a step of the pop, as the laws see it. -/
import Derived.Test.YtelfclcljdjohaaDoorRingP
namespace Go.Proofs.YtelfclcljdjohaaDoor
open Go.RowKit

theorem enter_tail (b : Nat) (W : World) : Sem.run Tryd.prog (callFunc 42 #[.pointer (some ⟨b, 0, none⟩)]) W = .ok (.enter 42 #[.pointer (some ⟨b, 0, none⟩)]) W := by kernel_rfl
theorem enter_some (b : Nat) (W : World) : Sem.run Tryd.prog (callFunc 49 #[.pointer (some ⟨b, 0, none⟩)]) W = .ok (.enter 49 #[.pointer (some ⟨b, 0, none⟩)]) W := by kernel_rfl
theorem enter_take (b : Nat) (W : World) : Sem.run Tryd.prog (callFunc 52 #[.pointer (some ⟨b, 0, none⟩)]) W = .ok (.enter 52 #[.pointer (some ⟨b, 0, none⟩)]) W := by kernel_rfl
theorem ctx_stepR {W w : World} {b mb lb : Nat} {X : Nat → Prop} {s : RS} (h : Ctx W w b mb lb X s) :
    Calls Tryd.prog 18 #[.pointer (some ⟨b, 0, none⟩), .bool false] w fun e w' => ∃ v, e = .returned (.tuple #[v, .bool s.stepR.2.2.1, .int .i64 s.stepR.2.2.2]) ∧ (Ctx W w' b mb lb X s.stepR.1 ∧ Kept X w w') ∧ IntsIn w' v s.stepR.2.1 ∧ ∀ g, v.ownBlock = some g → w.heap.size ≤ g := by
  obtain ⟨vi, vo, c, hT⟩ := h.at_
  have hf := ok_stepR h.ok
  have hoa3 := h.ok.oa
  have hno : ∀ g, (Value.slice none 0 0).ownBlock = some g → w.heap.size ≤ g := fun g hg => by simp [Value.ownBlock] at hg
  unfold RS.stepR at hf ⊢
  by_cases h0 : s.oa = 0
  · simp only [if_pos h0] at hf ⊢
    exact (step_idle_r hT h0).mono fun e w' ⟨he, hw⟩ => ⟨_, he, ⟨hw ▸ h, hw ▸ fun _ _ => rfl⟩, IntsIn.nil _, hno⟩
  simp only [if_neg h0] at hf ⊢
  by_cases h1 : s.oa = 1
  · simp only [if_pos h1] at hf ⊢
    exact (step_r hT h0 _ (by rw [h1]; rfl) (enter_tail b) false 0 (.inl rfl) ((tail_any hT h.ok).mono fun e w' ⟨he, hT', hO⟩ => ⟨he, vo, hT', only_turn vo hO⟩)).mono fun e w' ⟨he, vo', hT', hO⟩ => ⟨_, he, h.step hT ⟨_, _, _, hT'⟩ hf hO, IntsIn.nil _, hno⟩
  simp only [if_neg h1] at hf ⊢
  by_cases h2 : s.oa = 2
  · simp only [if_pos h2] at hf ⊢
    have hr := step_r hT h0 _ (by rw [h2]; rfl) (enter_some b) _ _ (by by_cases hd : s.hd = s.ot <;> simp [hd]) ((some_any hT h.ok).mono fun e w' ⟨he, hT', hO⟩ => ⟨he, vo, hT', only_turn vo hO⟩)
    by_cases hd : s.hd = s.ot
    · simp only [if_pos hd, decide_eq_true hd, if_true] at hf hr ⊢
      exact hr.mono fun e w' ⟨he, vo', hT', hO⟩ => ⟨_, he, h.step hT ⟨_, _, _, hT'⟩ hf hO, IntsIn.nil _, hno⟩
    · simp only [if_neg hd, decide_eq_false hd] at hf hr ⊢
      exact hr.mono fun e w' ⟨he, vo', hT', hO⟩ => ⟨_, he, h.step hT ⟨_, _, _, hT'⟩ hf hO, IntsIn.nil _, hno⟩
  simp only [if_neg h2] at hf ⊢
  have h3 : s.oa = 3 := by omega
  by_cases hn : s.ol.length < s.W
  · simp only [if_pos hn] at hf ⊢
    have hlt := idx_lt (a := s.oh) h.ok.p1 hn
    rw [← h.ok.len] at hlt
    have hx : s.mem[2 + s.oh % s.P * s.W + s.ol.length]? = some s.word := by
      unfold RS.word
      rw [List.getElem?_eq_getElem hlt]; rfl
    exact (step_r hT h0 _ (by rw [h3]; rfl) (enter_take b) false 0 (.inl rfl) (take_more hT h.ok h.bel.size hn _ hx)).mono fun e w' ⟨he, vo', hT', hO⟩ => ⟨_, he, h.step hT ⟨_, _, _, hT'⟩ hf hO, IntsIn.nil _, hno⟩
  · simp only [if_neg hn] at hf ⊢
    have hol := h.ok.ol
    have hw6 := h.ok.w6
    exact (step_r_over hT h0 _ (by rw [h3]; rfl) (enter_take b) (by show s.ol.length ≤ 65536; omega) (take_last hT h.ok (by omega))).mono fun e w' ⟨v, he, hT', hO, hi, hg⟩ => ⟨v, he, h.step hT ⟨_, _, _, hT'⟩ hf (only_turn vo hO), hi, hg⟩
end Go.Proofs.YtelfclcljdjohaaDoor
