/- Messages through a ring: what a step does, in plain Lean. -/
import Derived.Test.YtelfclcljdjohaaDoorRingM
namespace Go.Proofs.YtelfclcljdjohaaDoor
open Go.RowKit

def RS.word (s : RS) : Int := s.mem[2 + s.oh % s.P * s.W + s.ol.length]?.getD 0
def RS.stepW (s : RS) : RS × Bool × Int :=
  if s.ia = 0 then (s, false, 1)
  else if s.ia = 1 then ({ s with ih := s.hd, ia := 2 }, false, 0)
  else if s.ia = 2 then (if dist s.P s.tl s.ih = s.P then ({ s with it := s.tl, ia := 0 }, true, 2) else ({ s with it := s.tl, ia := 3 }, false, 0))
  else if s.inn < s.W then ({ s with mem := s.mem.set (2 + s.it % s.P * s.W + s.inn) (s.il[s.inn]?.getD 0), inn := s.inn + 1 }, false, 0)
  else ({ s with mem := s.mem.set 1 ((nextOf s.P s.it : Nat) : Int), ia := 0 }, true, 0)
def RS.stepR (s : RS) : RS × List Int × Bool × Int :=
  if s.oa = 0 then (s, [], false, 1)
  else if s.oa = 1 then ({ s with ot := s.tl, oa := 2 }, [], false, 0)
  else if s.oa = 2 then (if s.hd = s.ot then ({ s with oh := s.hd, oa := 0 }, [], true, 2) else ({ s with oh := s.hd, oa := 3 }, [], false, 0))
  else if s.ol.length < s.W then ({ s with ol := s.ol ++ [s.word] }, [], false, 0)
  else ({ s with mem := s.mem.set 0 ((nextOf s.P s.oh : Nat) : Int), oa := 0 }, s.ol, true, 0)
section
variable {s : RS}
theorem ok_len2 (h : s.ok) : 3 ≤ s.mem.length := by
  have := h.len
  have : 1 * 1 ≤ s.P * s.W := Nat.mul_le_mul h.p1 h.w1
  omega
theorem ok_stepW (h : s.ok) : s.stepW.1.ok := by
  have hl := ok_len2 h
  unfold RS.stepW
  split
  · exact h
  split
  · exact ⟨h.p1, h.p8, h.w1, h.w6, h.len, h.h, h.h2, h.t, h.t2, by simp, h.oa, h.h2, h.it, h.oh, h.ot, h.inn, fun _ => h.il (by omega), h.ol⟩
  split
  · split
    · exact ⟨h.p1, h.p8, h.w1, h.w6, h.len, h.h, h.h2, h.t, h.t2, by simp, h.oa, h.ih, h.t2, h.oh, h.ot, h.inn, fun e => by simp at e, h.ol⟩
    · exact ⟨h.p1, h.p8, h.w1, h.w6, h.len, h.h, h.h2, h.t, h.t2, by simp, h.oa, h.ih, h.t2, h.oh, h.ot, h.inn, fun _ => h.il (by omega), h.ol⟩
  split
  · rename_i hn
    have e0 : ({ s with mem := s.mem.set (2 + s.it % s.P * s.W + s.inn) (s.il[s.inn]?.getD 0), inn := s.inn + 1 } : RS).hd = s.hd := by
      simp only [RS.hd]; rw [List.getElem?_set_ne (by omega)]
    have e1 : ({ s with mem := s.mem.set (2 + s.it % s.P * s.W + s.inn) (s.il[s.inn]?.getD 0), inn := s.inn + 1 } : RS).tl = s.tl := by
      simp only [RS.tl]; rw [List.getElem?_set_ne (by omega)]
    exact ⟨h.p1, h.p8, h.w1, h.w6, by simp only [List.length_set]; exact h.len, by rw [e0]; simp only []; rw [List.getElem?_set_ne (by omega)]; exact h.h, by rw [e0]; exact h.h2, by rw [e1]; simp only []; rw [List.getElem?_set_ne (by omega)]; exact h.t, by rw [e1]; exact h.t2, h.ia, h.oa, h.ih, h.it, h.oh, h.ot, hn, h.il, h.ol⟩
  · have hx := nextOf_lt (a := s.it) h.p1
    have e0 : ({ s with mem := s.mem.set 1 ((nextOf s.P s.it : Nat) : Int), ia := 0 } : RS).hd = s.hd := by
      simp only [RS.hd]; rw [List.getElem?_set_ne (by omega)]
    have e1 : ({ s with mem := s.mem.set 1 ((nextOf s.P s.it : Nat) : Int), ia := 0 } : RS).tl = nextOf s.P s.it := by
      simp only [RS.tl]; rw [List.getElem?_set_self (by omega)]; simp
    exact ⟨h.p1, h.p8, h.w1, h.w6, by simp only [List.length_set]; exact h.len, by rw [e0]; simp only []; rw [List.getElem?_set_ne (by omega)]; exact h.h, by rw [e0]; exact h.h2, by rw [e1]; simp only []; rw [List.getElem?_set_self (by omega)], by rw [e1]; exact hx, by simp, h.oa, h.ih, h.it, h.oh, h.ot, h.inn, fun e => by simp at e, h.ol⟩
theorem ok_stepR (h : s.ok) : s.stepR.1.ok := by
  have hl := ok_len2 h
  unfold RS.stepR
  split
  · exact h
  split
  · exact ⟨h.p1, h.p8, h.w1, h.w6, h.len, h.h, h.h2, h.t, h.t2, h.ia, by simp, h.ih, h.it, h.oh, h.t2, h.inn, h.il, h.ol⟩
  split
  · split
    · exact ⟨h.p1, h.p8, h.w1, h.w6, h.len, h.h, h.h2, h.t, h.t2, h.ia, by simp, h.ih, h.it, h.h2, h.ot, h.inn, h.il, h.ol⟩
    · exact ⟨h.p1, h.p8, h.w1, h.w6, h.len, h.h, h.h2, h.t, h.t2, h.ia, by simp, h.ih, h.it, h.h2, h.ot, h.inn, h.il, h.ol⟩
  split
  · exact ⟨h.p1, h.p8, h.w1, h.w6, h.len, h.h, h.h2, h.t, h.t2, h.ia, h.oa, h.ih, h.it, h.oh, h.ot, h.inn, h.il, by simp only [List.length_append, List.length_singleton]; omega⟩
  · have hx := nextOf_lt (a := s.oh) h.p1
    have e0 : ({ s with mem := s.mem.set 0 ((nextOf s.P s.oh : Nat) : Int), oa := 0 } : RS).hd = nextOf s.P s.oh := by
      simp only [RS.hd]; rw [List.getElem?_set_self (by omega)]; simp
    have e1 : ({ s with mem := s.mem.set 0 ((nextOf s.P s.oh : Nat) : Int), oa := 0 } : RS).tl = s.tl := by
      simp only [RS.tl]; rw [List.getElem?_set_ne (by omega)]
    exact ⟨h.p1, h.p8, h.w1, h.w6, by simp only [List.length_set]; exact h.len, by rw [e0]; simp only []; rw [List.getElem?_set_self (by omega)], by rw [e0]; exact hx, by rw [e1]; simp only []; rw [List.getElem?_set_ne (by omega)]; exact h.t, by rw [e1]; exact h.t2, h.ia, by simp, h.ih, h.it, h.oh, h.ot, h.inn, h.il, h.ol⟩
end
end Go.Proofs.YtelfclcljdjohaaDoor
