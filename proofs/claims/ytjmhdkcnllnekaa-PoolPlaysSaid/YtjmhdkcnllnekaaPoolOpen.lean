/- Opening a script: a slice of steps that came in. -/
import Derived.Test.YtjmhdkcnllnekaaPoolLaw
import Derived.ProofKit
import Derived.OpenShut
import Derived.ChangeOld
import Derived.Deep.Slices
import Derived.Deep.Fields
import Derived.ChangeSame
namespace Go.Proofs.Ytjmhdkcnllnekaa
open Go.ChangeShapes Go.WideShapes Go.ChangeAt Go.RowKit Go.Deep
theorem wf_bounds {n : Int} (h : (Lit.int .i64 n).wf = true) : -9223372036854775808 ≤ n ∧ n ≤ 9223372036854775807 := bounds_i64 h
def numAt (w : World) (b o : Nat) : Int := match w.cell? ⟨b, o, none⟩ with
  | some (.int _ n) => n
  | _ => 0
theorem numAt_of {w : World} {b o : Nat} {n : Int} (h : w.cell? ⟨b, o, none⟩ = some (.int .i64 n)) : numAt w b o = n := by
  unfold numAt; rw [h]
theorem add_spot {a : Addr} {w : World} {v : Value} (h : w.cell? a = some v) (j : Nat) : a.add j = ⟨a.block, a.off + j, none⟩ := by
  have hs := World.cell?_spot h
  obtain ⟨b, o, s⟩ := a
  subst hs
  unfold Addr.add
  split <;> simp_all
theorem open_script {H : Type} {enc : TypeId × Value → H} {w : World} {base fuel len cap : Nat} {spare : Nat → Bool} {held : Bool} {A : Option Addr} {x : DataW H × List MemPlace}
    (h : DataW.trod enc Try.prog w base spare held fuel 22 (Value.cells (.slice A len cap)).toList = some x) : ∃ bs off K S O, Script w A len bs off K S O ∧ len ≤ cap ∧ cap ≤ maxLen := by
  rcases open_slice Try.underlying22 h with ⟨hcs, _⟩ | ⟨a, l, c, m, n, D, Pl, hcs, hb, hl, hm, hmm, hx, hi⟩
  · simp [Value.cells] at hcs
    obtain ⟨rfl, rfl, rfl⟩ := hcs
    exact ⟨0, 0, fun _ => 0, fun _ => 0, fun _ => 0, ⟨.inr rfl, by simp, by simp, by simp, by simp, by simp, by simp⟩, Nat.le_refl _, by simp⟩
  · simp [Value.cells] at hcs
    obtain ⟨rfl, rfl, rfl⟩ := hcs
    have hlm : len ≤ m := by rw [hmm]; split <;> omega
    have hC : Try.prog.cellsOf 31 = 3 := by kernel_rfl
    have hC3 : Try.prog.cellsOf 3 = 1 := by kernel_rfl
    have key : ∀ i, i < len → ∃ x0 x1 x2 : Int, w.cell? (a.add (i * 3 + 0)) = some (.int .i64 x0) ∧ w.cell? (a.add (i * 3 + 1)) = some (.int .i64 x1) ∧ w.cell? (a.add (i * 3 + 2)) = some (.int .i64 x2) ∧ (Lit.int .i64 x0).wf = true ∧ (Lit.int .i64 x1).wf = true ∧ (Lit.int .i64 x2).wf = true := by
      intro i hilt
      obtain ⟨cs', hc, ht⟩ := hi i (by omega)
      rw [hC] at hc
      obtain ⟨ys, n', hn', hy, hlen, hyl, hf⟩ := DataW.trod_struct Try.underlying31 ht
      obtain ⟨_, hcl, hat⟩ := World.cells?_some hc
      match cs', hcl with
      | [c0, c1, c2], _ =>
        have a0 := hat 0 (by omega)
        have a1 := hat 1 (by omega)
        have a2 := hat 2 (by omega)
        rw [Addr.add_add] at a0 a1 a2
        have f0 := hf 0 _ rfl
        have f1 := hf 1 _ rfl
        have f2 := hf 2 _ rfl
        have y3 : ys.length = 3 := hyl
        rw [List.getElem?_eq_getElem (by omega)] at f0 f1 f2
        obtain ⟨x0, e0, -, w0⟩ := DataW.trod_int Try.underlying3 f0
        obtain ⟨x1, e1, -, w1⟩ := DataW.trod_int Try.underlying3 f1
        obtain ⟨x2, e2, -, w2⟩ := DataW.trod_int Try.underlying3 f2
        simp [hC3] at e0 e1 e2
        subst e0 e1 e2
        exact ⟨x0, x1, x2, a0, a1, a2, w0, w1, w2⟩
    by_cases hz : len = 0
    · subst hz
      exact ⟨0, 0, fun _ => 0, fun _ => 0, fun _ => 0, ⟨.inr rfl, by simp, by simp, by simp, by simp, by simp, by simp⟩, hl, hm⟩
    · have hsp : ∀ j, a.add j = ⟨a.block, a.off + j, none⟩ := by
        obtain ⟨x0, _, _, h0, _⟩ := key 0 (by omega)
        have : a.add (0 * 3 + 0) = a := by simp [Addr.add]
        rw [this] at h0
        exact add_spot h0
      have ha : a = ⟨a.block, a.off, none⟩ := by have := hsp 0; simpa [Addr.add] using this
      have hsp3 : ∀ i j, a.add (i * 3 + j) = ⟨a.block, a.off + i * 3 + j, none⟩ := fun i j => by rw [hsp, Nat.add_assoc]
      refine ⟨a.block, a.off, fun i => numAt w a.block (a.off + i * 3), fun i => numAt w a.block (a.off + i * 3 + 1), fun i => numAt w a.block (a.off + i * 3 + 2), ⟨.inl (by rw [← ha]), ?_, ?_, ?_, ?_, ?_, ?_⟩, hl, hm⟩
      all_goals
        intro i hilt
        obtain ⟨x0, x1, x2, h0, h1, h2, w0, w1, w2⟩ := key i hilt
        rw [hsp3] at h0 h1 h2
        have n0 := numAt_of h0
        have n1 := numAt_of h1
        have n2 := numAt_of h2
        simp only [Nat.add_zero] at n0 h0
        simp only [n0, n1, n2]
        first | exact h0 | exact h1 | exact h2 | exact wf_bounds w0 | exact wf_bounds w1 | exact wf_bounds w2
end Go.Proofs.Ytjmhdkcnllnekaa
