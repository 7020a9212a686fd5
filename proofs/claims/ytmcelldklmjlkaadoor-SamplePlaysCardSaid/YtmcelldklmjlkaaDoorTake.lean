/- A slice of ints, cut short. (The triple seat holds the same in TripleOdd.) -/
import Derived.Test.YtmcelldklmjlkaaDoorSame
namespace Go.Proofs.YtmcelldklmjlkaaDoor
open Go.RowKit

theorem IntsIn.take {w : World} {A : Option Addr} {len cap : Nat} {l : List Int} (h : IntsIn w (.slice A len cap) l) (m : Nat) (hm : m ≤ len) : IntsIn w (.slice A m cap) (l.take m) ∧ (l.take m).length = m := by
  obtain ⟨A', c', e, hl, hc⟩ := h
  injection e with e1 e2 e3
  subst e1 e2 e3
  have hlen : (l.take m).length = m := by rw [List.length_take]; omega
  refine ⟨⟨A, cap, by rw [hlen], by omega, fun hp => ?_⟩, hlen⟩
  obtain ⟨g, o, rfl, hcell⟩ := hc (by omega)
  exact ⟨g, o, rfl, fun i hi => by rw [hcell i (by omega)]; simp⟩
end Go.Proofs.YtmcelldklmjlkaaDoor
