/- Messages through a ring: a step of the push, as the laws see it. -/
import Derived.Test.YtelfclcljdjohaaDoorRingO
namespace Go.Proofs.YtelfclcljdjohaaDoor
open Go.RowKit

theorem enter_room (b : Nat) (W : World) : Sem.run Tryd.prog (callFunc 48 #[.pointer (some ⟨b, 0, none⟩)]) W = .ok (.enter 48 #[.pointer (some ⟨b, 0, none⟩)]) W := by kernel_rfl
theorem enter_put (b : Nat) (W : World) : Sem.run Tryd.prog (callFunc 51 #[.pointer (some ⟨b, 0, none⟩)]) W = .ok (.enter 51 #[.pointer (some ⟨b, 0, none⟩)]) W := by kernel_rfl
theorem only_turn {w w' : World} {b mb lb : Nat} (vo : Value) (h : Only (regS b mb lb) w w') : Only (turnS b mb lb vo) w w' := onl_mono h fun _ e => .inl e
theorem ctx_stepW {W w : World} {b mb lb : Nat} {X : Nat → Prop} {s : RS} (h : Ctx W w b mb lb X s) :
    Calls Tryd.prog 18 #[.pointer (some ⟨b, 0, none⟩), .bool true] w fun e w' => e = .returned (.tuple #[.slice none 0 0, .bool s.stepW.2.1, .int .i64 s.stepW.2.2]) ∧ Ctx W w' b mb lb X s.stepW.1 ∧ Kept X w w' := by
  obtain ⟨vi, vo, c, hT⟩ := h.at_
  have hf := ok_stepW h.ok
  have hia3 := h.ok.ia
  unfold RS.stepW at hf ⊢
  by_cases h0 : s.ia = 0
  · simp only [if_pos h0] at hf ⊢
    exact (step_idle_w hT h0).mono fun e w' ⟨he, hw⟩ => ⟨he, hw ▸ h, hw ▸ fun _ _ => rfl⟩
  simp only [if_neg h0] at hf ⊢
  by_cases h1 : s.ia = 1
  · simp only [if_pos h1] at hf ⊢
    exact (step_w hT h0 _ (by rw [h1]; rfl) (enter_head b) false 0 (head_any hT h.ok)).mono fun e w' ⟨he, hT', hO⟩ => ⟨he, h.step hT ⟨_, _, _, hT'⟩ hf (only_turn vo hO)⟩
  simp only [if_neg h1] at hf ⊢
  by_cases h2 : s.ia = 2
  · simp only [if_pos h2] at hf ⊢
    have hr := step_w hT h0 _ (by rw [h2]; rfl) (enter_room b) _ _ (room_any hT h.ok)
    by_cases hd : dist s.P s.tl s.ih = s.P
    · simp only [if_pos hd, decide_eq_true hd, if_true] at hf hr ⊢
      exact hr.mono fun e w' ⟨he, hT', hO⟩ => ⟨he, h.step hT ⟨_, _, _, hT'⟩ hf (only_turn vo hO)⟩
    · simp only [if_neg hd, decide_eq_false hd] at hf hr ⊢
      exact hr.mono fun e w' ⟨he, hT', hO⟩ => ⟨he, h.step hT ⟨_, _, _, hT'⟩ hf (only_turn vo hO)⟩
  simp only [if_neg h2] at hf ⊢
  have h3 : s.ia = 3 := by omega
  by_cases hn : s.inn < s.W
  · simp only [if_pos hn] at hf ⊢
    have hx : s.il[s.inn]? = some (s.il[s.inn]?.getD 0) := by
      have := (h.ok.il h0).1
      rw [List.getElem?_eq_getElem (by omega)]; rfl
    exact (step_w hT h0 _ (by rw [h3]; rfl) (enter_put b) false 0 (put_more hT h.ok h3 hn _ hx)).mono fun e w' ⟨he, hT', hO⟩ => ⟨he, h.step hT ⟨_, _, _, hT'⟩ hf (only_turn vo hO)⟩
  · simp only [if_neg hn] at hf ⊢
    exact (step_w hT h0 _ (by rw [h3]; rfl) (enter_put b) true 0 (put_last hT h.ok (by have := h.ok.inn; omega))).mono fun e w' ⟨he, hT', hO⟩ => ⟨he, h.step hT ⟨_, _, _, hT'⟩ hf (only_turn vo hO)⟩
end Go.Proofs.YtelfclcljdjohaaDoor
