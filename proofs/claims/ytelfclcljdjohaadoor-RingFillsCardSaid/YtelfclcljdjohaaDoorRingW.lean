/- Messages through a ring: one push, or one pop, access by access. -/
import Derived.Test.YtelfclcljdjohaaDoorRingRow
namespace Go.Proofs.YtelfclcljdjohaaDoor
open Go.RowKit

def WP (f : FS) (j : Nat) : Prop := (j = 0 ∧ f.s.ia = 0) ∨ (j = 1 ∧ f.s.ia = 2 ∧ f.s.ih = f.s.hd) ∨ (2 ≤ j ∧ j < f.s.W + 3 ∧ f.s.ia = 3 ∧ f.s.inn + 2 = j)
def RP (f : FS) (j : Nat) : Prop := (j = 0 ∧ f.s.oa = 0) ∨ (j = 1 ∧ f.s.oa = 2 ∧ f.s.ot = f.s.tl) ∨ (2 ≤ j ∧ j < f.s.W + 3 ∧ f.s.oa = 3 ∧ f.s.ol.length + 2 = j)
theorem push_at0 {f : FS} (h : f.s.ia = 0) : f.push = { f with s := { f.s.pushed (List.replicate f.s.W ((f.fin : Int) + 1)) with ih := f.s.hd, ia := 2 }, full := decide (f.fin - f.out = f.s.P) } := by
  unfold FS.push FS.begun
  rw [if_pos h]
  rfl
theorem push_at2 {f : FS} (h : f.s.ia = 2) : f.push = if dist f.s.P f.s.tl f.s.ih = f.s.P then { f with s := { f.s with it := f.s.tl, ia := 0 } } else { f with s := { f.s with it := f.s.tl, ia := 3 } } := by
  have e : f.s.stepW = if dist f.s.P f.s.tl f.s.ih = f.s.P then ({ f.s with it := f.s.tl, ia := 0 }, true, 2) else ({ f.s with it := f.s.tl, ia := 3 }, false, 0) := by
    unfold RS.stepW
    rw [if_neg (by omega), if_neg (by omega), if_pos h]
  unfold FS.push FS.begun FS.stepW
  rw [if_neg (by omega), e]
  split <;> rfl
theorem push_at3 {f : FS} (h : f.s.ia = 3) : f.push = if f.s.inn < f.s.W then { f with s := { f.s with mem := f.s.mem.set (2 + f.s.it % f.s.P * f.s.W + f.s.inn) (f.s.il[f.s.inn]?.getD 0), inn := f.s.inn + 1 } } else { f with s := { f.s with mem := f.s.mem.set 1 ((nextOf f.s.P f.s.it : Nat) : Int), ia := 0 }, fin := f.fin + 1 } := by
  have e : f.s.stepW = if f.s.inn < f.s.W then ({ f.s with mem := f.s.mem.set (2 + f.s.it % f.s.P * f.s.W + f.s.inn) (f.s.il[f.s.inn]?.getD 0), inn := f.s.inn + 1 }, false, 0) else ({ f.s with mem := f.s.mem.set 1 ((nextOf f.s.P f.s.it : Nat) : Int), ia := 0 }, true, 0) := by
    unfold RS.stepW
    rw [if_neg (by omega), if_neg (by omega), if_neg (by omega)]
  unfold FS.push FS.begun FS.stepW
  rw [if_neg (by omega), e]
  split <;> rfl
theorem pop_at0 {f : FS} (h : f.s.oa = 0) : f.pop = { f with s := { f.s.popped with ot := f.s.tl, oa := 2 }, low := decide (f.fin = f.out) } := by
  unfold FS.pop FS.asked
  rw [if_pos h]
  rfl
theorem pop_at2 {f : FS} (h : f.s.oa = 2) : f.pop = if f.s.hd = f.s.ot then { f with s := { f.s with oh := f.s.hd, oa := 0 } } else { f with s := { f.s with oh := f.s.hd, oa := 3 } } := by
  have e : f.s.stepR = if f.s.hd = f.s.ot then ({ f.s with oh := f.s.hd, oa := 0 }, [], true, 2) else ({ f.s with oh := f.s.hd, oa := 3 }, [], false, 0) := by
    unfold RS.stepR
    rw [if_neg (by omega), if_neg (by omega), if_pos h]
  unfold FS.pop FS.asked FS.stepR
  rw [if_neg (by omega), e]
  split <;> rfl
theorem pop_at3 {f : FS} (h : f.s.oa = 3) : f.pop = if f.s.ol.length < f.s.W then { f with s := { f.s with ol := f.s.ol ++ [f.s.word] } } else { f with s := { f.s with mem := f.s.mem.set 0 ((nextOf f.s.P f.s.oh : Nat) : Int), oa := 0 }, out := f.out + 1 } := by
  have e : f.s.stepR = if f.s.ol.length < f.s.W then ({ f.s with ol := f.s.ol ++ [f.s.word] }, [], false, 0) else ({ f.s with mem := f.s.mem.set 0 ((nextOf f.s.P f.s.oh : Nat) : Int), oa := 0 }, f.s.ol, true, 0) := by
    unfold RS.stepR
    rw [if_neg (by omega), if_neg (by omega), if_neg (by omega)]
  unfold FS.pop FS.asked FS.stepR
  rw [if_neg (by omega), e]
  split <;> rfl
theorem stepW_oa (s : RS) : s.stepW.1.oa = s.oa := by unfold RS.stepW; repeat (first | rfl | split)
theorem stepR_ia (s : RS) : s.stepR.1.ia = s.ia := by unfold RS.stepR; repeat (first | rfl | split)
theorem push_keeps (f : FS) : f.push.out = f.out ∧ f.push.s.oa = f.s.oa ∧ f.push.s.P = f.s.P ∧ f.push.s.W = f.s.W := by
  have e1 := stepW_oa f.begun.s
  have e2 := stepW_P f.begun.s
  have e3 : f.begun.out = f.out ∧ f.begun.s.oa = f.s.oa ∧ f.begun.s.P = f.s.P ∧ f.begun.s.W = f.s.W := by
    unfold FS.begun
    split <;> exact ⟨rfl, rfl, rfl, rfl⟩
  exact ⟨e3.1, e1.trans e3.2.1, e2.1.trans e3.2.2.1, e2.2.trans e3.2.2.2⟩
theorem pop_keeps (f : FS) : f.pop.fin = f.fin ∧ f.pop.s.ia = f.s.ia ∧ f.pop.s.P = f.s.P ∧ f.pop.s.W = f.s.W := by
  have e1 := stepR_ia f.asked.s
  have e2 := stepR_P f.asked.s
  have e3 : f.asked.fin = f.fin ∧ f.asked.s.ia = f.s.ia ∧ f.asked.s.P = f.s.P ∧ f.asked.s.W = f.s.W := by
    unfold FS.asked
    split <;> exact ⟨rfl, rfl, rfl, rfl⟩
  exact ⟨e3.1, e1.trans e3.2.1, e2.1.trans e3.2.2.1, e2.2.trans e3.2.2.2⟩
section
variable {f : FS} {j : Nat}
theorem push_room (h : FInv f) (hw : WP f j) (hr : f.fin < f.out + f.s.P) : j + 1 < f.s.W + 3 ∧ WP f.push (j + 1) ∧ f.push.fin = f.fin ∨ j + 1 = f.s.W + 3 ∧ WP f.push 0 ∧ f.push.fin = f.fin + 1 := by
  have hd1 := h.d1
  rcases hw with ⟨rfl, h0⟩ | ⟨rfl, h2, hh⟩ | ⟨j2, jn, h3, hi⟩
  · rw [push_at0 h0]
    exact .inl ⟨by omega, .inr (.inl ⟨rfl, rfl, rfl⟩), rfl⟩
  · rw [push_at2 h2, hh, finv_count h, if_neg (by omega)]
    exact .inl ⟨by omega, .inr (.inr ⟨by omega, by show 2 < f.s.W + 3; omega, rfl, by show f.s.inn + 2 = 2; rw [h.az (.inr h2)]⟩), rfl⟩
  · rw [push_at3 h3]
    by_cases hn : f.s.inn < f.s.W
    · rw [if_pos hn]
      exact .inl ⟨by omega, .inr (.inr ⟨by omega, by show j + 1 < f.s.W + 3; omega, h3, by show f.s.inn + 1 + 2 = j + 1; omega⟩), rfl⟩
    · rw [if_neg hn]
      exact .inr ⟨by omega, .inl ⟨rfl, rfl⟩, rfl⟩
theorem push_full0 (h0 : f.s.ia = 0) : WP f.push 1 ∧ f.push.fin = f.fin := by
  rw [push_at0 h0]
  exact ⟨.inr (.inl ⟨rfl, rfl, rfl⟩), rfl⟩
theorem push_full1 (h : FInv f) (hw : WP f 1) (hr : f.fin = f.out + f.s.P) : f.push.s.ia = 0 ∧ f.push.fin = f.fin := by
  rcases hw with ⟨hx, h0⟩ | ⟨-, h2, hh⟩ | ⟨j2, jn, h3, hi⟩
  · omega
  · rw [push_at2 h2, hh, finv_count h, if_pos (by omega)]
    exact ⟨rfl, rfl⟩
  · omega
theorem pop_room (h : FInv f) (hw : RP f j) (hr : f.out < f.fin) : j + 1 < f.s.W + 3 ∧ RP f.pop (j + 1) ∧ f.pop.out = f.out ∨ j + 1 = f.s.W + 3 ∧ RP f.pop 0 ∧ f.pop.out = f.out + 1 := by
  have hd2 := h.d2
  have hp := h.ok.p1
  rcases hw with ⟨rfl, h0⟩ | ⟨rfl, h2, hh⟩ | ⟨j2, jn, h3, hi⟩
  · rw [pop_at0 h0]
    exact .inl ⟨by omega, .inr (.inl ⟨rfl, rfl, rfl⟩), rfl⟩
  · rw [pop_at2 h2, if_neg (fun e => by
      rw [hh, h.t, h.h] at e
      have := mod_inj (P := f.s.P) (a := f.fin) (b := f.out) (by omega) (by omega) e.symm
      omega)]
    exact .inl ⟨by omega, .inr (.inr ⟨by omega, by show 2 < f.s.W + 3; omega, rfl, by show f.s.ol.length + 2 = 2; rw [h.cz (.inr h2)]; rfl⟩), rfl⟩
  · rw [pop_at3 h3]
    by_cases hn : f.s.ol.length < f.s.W
    · rw [if_pos hn]
      exact .inl ⟨by omega, .inr (.inr ⟨by omega, by show j + 1 < f.s.W + 3; omega, h3, by show (f.s.ol ++ [f.s.word]).length + 2 = j + 1; rw [List.length_append, List.length_singleton]; omega⟩), rfl⟩
    · rw [if_neg hn]
      exact .inr ⟨by omega, .inl ⟨rfl, rfl⟩, rfl⟩
end
/-- k accesses make a messages, and j accesses of the next one. -/
theorem acc_lt {a j k n P : Nat} (hk : k = a * n + j) (h : k < P * n) : a < P := by
  rcases Nat.lt_or_ge a P with h' | h'
  · exact h'
  · have := Nat.mul_le_mul_right n h'
    omega
theorem acc_end {a j k n P : Nat} (hk : k = a * n + j) (hj : j < n) (h : k = P * n) : a = P ∧ j = 0 := by
  rcases Nat.lt_trichotomy a P with h' | h' | h'
  · have := Nat.mul_le_mul_right n (show a + 1 ≤ P from h')
    rw [Nat.add_mul] at this
    omega
  · subst h'
    omega
  · have := Nat.mul_le_mul_right n (show P + 1 ≤ a from h')
    rw [Nat.add_mul] at this
    omega
/-- .. where only pushes, or only pops, go on. -/
structure PushAt (f0 f : FS) (k : Nat) : Prop where
  i : FInv f
  ex : ∃ a j, k = a * (f.s.W + 3) + j ∧ j < f.s.W + 3 ∧ WP f j ∧ f.fin = f0.fin + a ∧ f.out = f0.out
  p : f.s.P = f0.s.P
  w : f.s.W = f0.s.W
  oa : f.s.oa = 0
structure PopAt (f0 f : FS) (k : Nat) : Prop where
  i : FInv f
  ex : ∃ a j, k = a * (f.s.W + 3) + j ∧ j < f.s.W + 3 ∧ RP f j ∧ f.out = f0.out + a ∧ f.fin = f0.fin
  p : f.s.P = f0.s.P
  w : f.s.W = f0.s.W
  ia : f.s.ia = 0
theorem pushAt_start {f0 : FS} (h : FInv f0) (hia : f0.s.ia = 0) (hoa : f0.s.oa = 0) : PushAt f0 f0 0 := ⟨h, ⟨0, 0, by omega, by omega, .inl ⟨rfl, hia⟩, rfl, rfl⟩, rfl, rfl, hoa⟩
theorem popAt_start {f0 : FS} (h : FInv f0) (hia : f0.s.ia = 0) (hoa : f0.s.oa = 0) : PopAt f0 f0 0 := ⟨h, ⟨0, 0, by omega, by omega, .inl ⟨rfl, hoa⟩, rfl, rfl⟩, rfl, rfl, hia⟩
theorem pushAt_next {f0 f : FS} {k : Nat} (h : PushAt f0 f k) (hb : f0.fin < 1000) (h0 : f0.fin = f0.out) (hk : k < f0.s.P * (f0.s.W + 3)) : f.fin < 1000000 ∧ PushAt f0 f.push (k + 1) := by
  obtain ⟨hi, ⟨a, j, e1, e2, e3, e4, e5⟩, hp, hw, hoa⟩ := h
  have ha := acc_lt e1 (by rw [hw]; exact hk)
  have hp8 := hi.ok.p8
  obtain ⟨k1, k2, k3, k4⟩ := push_keeps f
  have hlt : f.fin < 1000000 := by omega
  refine ⟨hlt, finv_push hi hlt, ?_, k3.trans hp, k4.trans hw, k2.trans hoa⟩
  rcases push_room hi e3 (by omega) with ⟨g1, g2, g3⟩ | ⟨g1, g2, g3⟩
  · exact ⟨a, j + 1, by rw [k4]; omega, by rw [k4]; exact g1, g2, by omega, by omega⟩
  · exact ⟨a + 1, 0, by rw [k4, Nat.add_mul]; omega, by omega, g2, by omega, by omega⟩
theorem popAt_next {f0 f : FS} {k c : Nat} (h : PopAt f0 f k) (h0 : f0.fin = f0.out + c) (hk : k < c * (f0.s.W + 3)) : PopAt f0 f.pop (k + 1) := by
  obtain ⟨hi, ⟨a, j, e1, e2, e3, e4, e5⟩, hp, hw, hia⟩ := h
  have ha := acc_lt e1 (by rw [hw]; exact hk)
  obtain ⟨k1, k2, k3, k4⟩ := pop_keeps f
  refine ⟨finv_pop hi, ?_, k3.trans hp, k4.trans hw, k2.trans hia⟩
  rcases pop_room hi e3 (by omega) with ⟨g1, g2, g3⟩ | ⟨g1, g2, g3⟩
  · exact ⟨a, j + 1, by rw [k4]; omega, by rw [k4]; exact g1, g2, by omega, by omega⟩
  · exact ⟨a + 1, 0, by rw [k4, Nat.add_mul]; omega, by omega, g2, by omega, by omega⟩
theorem pushAt_end {f0 f : FS} {k : Nat} (h : PushAt f0 f k) (hk : k = f0.s.P * (f0.s.W + 3)) : f.fin = f0.fin + f0.s.P ∧ f.out = f0.out ∧ f.s.ia = 0 := by
  obtain ⟨hi, ⟨a, j, e1, e2, e3, e4, e5⟩, hp, hw, hoa⟩ := h
  obtain ⟨rfl, rfl⟩ := acc_end e1 e2 (by rw [hw]; exact hk)
  rcases e3 with ⟨-, e⟩ | ⟨e, _⟩ | ⟨e, _⟩
  · exact ⟨e4, e5, e⟩
  · omega
  · omega
theorem popAt_end {f0 f : FS} {k c : Nat} (h : PopAt f0 f k) (hk : k = c * (f0.s.W + 3)) : f.out = f0.out + c ∧ f.fin = f0.fin ∧ f.s.oa = 0 := by
  obtain ⟨hi, ⟨a, j, e1, e2, e3, e4, e5⟩, hp, hw, hia⟩ := h
  obtain ⟨rfl, rfl⟩ := acc_end e1 e2 (by rw [hw]; exact hk)
  rcases e3 with ⟨-, e⟩ | ⟨e, _⟩ | ⟨e, _⟩
  · exact ⟨e4, e5, e⟩
  · omega
  · omega
/-- The rest is popped one by one, till none is left. -/
theorem popAt_one {f0 f : FS} {k : Nat} (h : PopAt f0 f k) (h0 : f0.fin ≤ f0.out + 1) (e : f.fin ≠ f.out) : k ≤ 8 ∧ PopAt f0 f.pop (k + 1) ∧ (f.pop.fin = f.pop.out → f.pop.s.oa = 0) := by
  have h' := h
  obtain ⟨hi, ⟨a, j, e1, e2, e3, e4, e5⟩, hp, hw, hia⟩ := h
  have hd1 := hi.d1
  have hw6 := hi.ok.w6
  have ha : a = 0 := by omega
  subst ha
  refine ⟨by omega, popAt_next h' (c := 1) (by omega) (by rw [← hw]; omega), fun e' => ?_⟩
  have hk := (pop_keeps f).1
  rcases pop_room hi e3 (by omega) with ⟨g1, g2, g3⟩ | ⟨g1, g2, g3⟩
  · omega
  · rcases g2 with ⟨-, h0⟩ | ⟨e, _⟩ | ⟨e, _⟩
    · exact h0
    · omega
    · omega
end Go.Proofs.YtelfclcljdjohaaDoor
