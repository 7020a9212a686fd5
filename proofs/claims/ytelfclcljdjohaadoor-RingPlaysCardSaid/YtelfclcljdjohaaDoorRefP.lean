/- The reference's ring: Step, Pop, Drop, as the law sees them. -/
import Derived.Test.YtelfclcljdjohaaDoorRefK
import Derived.Test.YtelfclcljdjohaaDoorRefO
namespace Go.Proofs.YtelfclcljdjohaaDoor
open Go.RowKit

section
variable {w : World} {X : Nat → Prop} {r : RF} {s : RS}
theorem refstep_any (h : RefIn w X r s) (hk : s.ok) (hX : ∀ k, X k → k < w.heap.size) (b : Bool) :
    Calls Tryd.prog 30 #[r.v, .bool b] w fun e w' => ∃ r' A c, e = .returned (.tuple #[RF.v r', .slice A (s.step b).2.1.length c, .bool (s.step b).2.2.1, .int .i64 (s.step b).2.2.2]) ∧ Below w.heap.size w w' ∧ RefIn w' (newX X w w') r' (s.step b).1 ∧ IntsX w' (newX X w w') (.slice A (s.step b).2.1.length c) (s.step b).2.1 := by
  cases b
  · by_cases h0 : s.oa = 0
    · exact refstep3 h hk hX h0
    · by_cases hov : s.stepR.2.2.1 = true ∧ s.stepR.2.2.2 = 0
      · exact refstep4a h hk hX h0 hov
      · exact refstep4b h hk hX h0 hov
  · by_cases h0 : s.ia = 0
    · exact refstep1 h hk hX h0
    · exact refstep2 h hk hX h0
theorem refpop_in (h : RefIn w X r s) :
    Calls Tryd.prog 29 #[r.v] w fun e w' => ∃ r', e = .returned (.tuple #[RF.v r', .int .i64 s.popR.2]) ∧ Below w.heap.size w w' ∧ RefIn w' (newX X w w') r' s.popR.1 := by
  refine (refpop_any r w).mono fun e w' ⟨he, hb⟩ => ⟨r.pop.1, ?_, hb, ?_⟩
  · rw [he]
    have : r.pop.2 = s.popR.2 := by
      unfold RF.pop RS.popR
      rw [h.po]
      by_cases h0 : s.oa = 0 <;> simp [h0]
    rw [this]
  · unfold RF.pop RS.popR
    rw [h.po]
    by_cases h0 : s.oa = 0
    · simp only [h0, decide_true, Bool.not_true, Bool.false_eq_true, if_false, if_true]
      exact refin_pop (h.go hb)
    · simp only [h0, decide_false, Bool.not_false, if_true, if_false]
      exact h.go hb
theorem refdrop_in (h : RefIn w X r s) (b : Bool) :
    Calls Tryd.prog 31 #[r.v, .bool b] w fun e w' => ∃ r', e = .returned (.tuple #[RF.v r', .bool (!decide ((if b then s.ia else s.oa) = 0))]) ∧ Below w.heap.size w w' ∧ RefIn w' (newX X w w') r' (s.dropped b) := by
  refine (refdrop_any r b w).mono fun e w' ⟨he, hb⟩ => ⟨(r.drop b).1, ?_, hb, ?_⟩
  · rw [he]
    have : (r.drop b).2 = !decide ((if b then s.ia else s.oa) = 0) := by
      cases b
      · exact h.po
      · exact h.pu
    rw [this]
  · have := refin_drop (h.go hb) b
    cases b
    · exact this
    · exact this
end
end Go.Proofs.YtelfclcljdjohaaDoor
