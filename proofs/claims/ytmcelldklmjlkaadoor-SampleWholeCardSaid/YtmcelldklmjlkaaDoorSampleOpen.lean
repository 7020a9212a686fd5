/- Opening what came in: a slice of turns. -/
import Derived.Test.YtmcelldklmjlkaaDoorSampleWhole
import Derived.ProofKit
import Derived.OpenShut
import Derived.ChangeOld
import Derived.Deep.Slices
import Derived.Deep.Fields
import Derived.ChangeSame
namespace Go.Proofs.YtmcelldklmjlkaaDoor
open Go.ChangeShapes Go.WideShapes Go.ChangeAt Go.RowKit Go.Deep
def flagAt (w : World) (b o : Nat) : Bool := match w.cell? ⟨b, o, none⟩ with
  | some (.bool n) => n
  | _ => false
theorem flagAt_of {w : World} {b o : Nat} {n : Bool} (h : w.cell? ⟨b, o, none⟩ = some (.bool n)) : flagAt w b o = n := by
  unfold flagAt; rw [h]
theorem add_spot {a : Addr} {w : World} {v : Value} (h : w.cell? a = some v) (j : Nat) : a.add j = ⟨a.block, a.off + j, none⟩ := by
  have hs := World.cell?_spot h
  obtain ⟨b, o, s⟩ := a
  subst hs
  unfold Addr.add
  split <;> simp_all
set_option maxRecDepth 100000 in
theorem open_turns {H : Type} {enc : TypeId × Value → H} {w : World} {base fuel len cap : Nat} {spare : Nat → Bool} {held : Bool} {A : Option Addr} {x : DataW H × List MemPlace}
    (h : DataW.trod enc Tryd.prog w base spare held fuel 70 (Value.cells (.slice A len cap)).toList = some x) : ∃ bs off P Q, TurnIn w A len bs off P Q ∧ len ≤ cap ∧ cap ≤ maxLen := by
  rcases open_slice Tryd.underlying70 h with ⟨hcs, _⟩ | ⟨a, l, c, m, n, D, Pl, hcs, hb, hl, hm, hmm, hx, hi⟩
  · simp [Value.cells] at hcs
    obtain ⟨rfl, rfl, rfl⟩ := hcs
    exact ⟨0, 0, fun _ => false, fun _ => false, ⟨.inr rfl, by simp, by simp⟩, Nat.le_refl _, by simp⟩
  · simp [Value.cells] at hcs
    obtain ⟨rfl, rfl, rfl⟩ := hcs
    have hlm : len ≤ m := by rw [hmm]; split <;> omega
    have hC : Tryd.prog.cellsOf 72 = 2 := by kernel_rfl
    have hC4 : Tryd.prog.cellsOf 4 = 1 := by kernel_rfl
    have key : ∀ i, i < len → ∃ x0 x1 : Bool, w.cell? (a.add (i * 2 + 0)) = some (.bool x0) ∧ w.cell? (a.add (i * 2 + 1)) = some (.bool x1) := by
      intro i hilt
      obtain ⟨cs', hc, ht⟩ := hi i (by omega)
      rw [hC] at hc
      obtain ⟨ys, n', hn', hy, hlen, hyl, hf⟩ := DataW.trod_struct Tryd.underlying72 ht
      obtain ⟨_, hcl, hat⟩ := World.cells?_some hc
      match cs', hcl with
      | [c0, c1], _ =>
        have a0 := hat 0 (by omega)
        have a1 := hat 1 (by omega)
        rw [Addr.add_add] at a0 a1
        have f0 := hf 0 _ rfl
        have f1 := hf 1 _ rfl
        have y3 : ys.length = 2 := hyl
        rw [List.getElem?_eq_getElem (by omega)] at f0 f1
        obtain ⟨x0, e0, -⟩ := DataW.trod_bool Tryd.underlying4 f0
        obtain ⟨x1, e1, -⟩ := DataW.trod_bool Tryd.underlying4 f1
        simp [hC4] at e0 e1
        subst e0 e1
        exact ⟨x0, x1, a0, a1⟩
    by_cases hz : len = 0
    · subst hz
      exact ⟨0, 0, fun _ => false, fun _ => false, ⟨.inr rfl, by simp, by simp⟩, hl, hm⟩
    · have hsp : ∀ j, a.add j = ⟨a.block, a.off + j, none⟩ := by
        obtain ⟨x0, _, h0, _⟩ := key 0 (by omega)
        have : a.add (0 * 2 + 0) = a := by simp [Addr.add]
        rw [this] at h0
        exact add_spot h0
      have ha : a = ⟨a.block, a.off, none⟩ := by have := hsp 0; simpa [Addr.add] using this
      have hsp3 : ∀ i j, a.add (i * 2 + j) = ⟨a.block, a.off + i * 2 + j, none⟩ := fun i j => by rw [hsp, Nat.add_assoc]
      refine ⟨a.block, a.off, fun i => flagAt w a.block (a.off + i * 2), fun i => flagAt w a.block (a.off + i * 2 + 1), ⟨.inl (by rw [← ha]), ?_, ?_⟩, hl, hm⟩
      all_goals
        intro i hilt
        obtain ⟨x0, x1, h0, h1⟩ := key i hilt
        rw [hsp3] at h0 h1
        have n0 := flagAt_of h0
        have n1 := flagAt_of h1
        simp only [Nat.add_zero] at n0 h0
        simp only [n0, n1]
        first | exact h0 | exact h1
end Go.Proofs.YtmcelldklmjlkaaDoor
