/- Opening what came in: a slice of flags, of numbers, of slices of numbers. -/
import Derived.Test.YtmcelldklmjlkaaDoorSame
import Derived.ProofKit
import Derived.OpenShut
import Derived.ChangeOld
import Derived.Deep.Slices
import Derived.Deep.Fields
import Derived.ChangeSame
namespace Go.Proofs.YtmcelldklmjlkaaDoor
open Go.ChangeShapes Go.WideShapes Go.ChangeAt Go.RowKit Go.Deep

theorem add_at {a : Addr} {w : World} {v : Value} (h : w.cell? a = some v) : a = ⟨a.block, a.off, none⟩ ∧ ∀ j, a.add j = ⟨a.block, a.off + j, none⟩ := by
  have hs := World.cell?_spot h
  obtain ⟨b, o, s⟩ := a
  subst hs
  refine ⟨rfl, fun j => ?_⟩
  unfold Addr.add
  split <;> simp_all
def boolAt (w : World) (b o : Nat) : Bool := match w.cell? ⟨b, o, none⟩ with
  | some (.bool n) => n
  | _ => false
theorem boolAt_of {w : World} {b o : Nat} {n : Bool} (h : w.cell? ⟨b, o, none⟩ = some (.bool n)) : boolAt w b o = n := by
  unfold boolAt; rw [h]
def intAt (w : World) (b o : Nat) : Int := match w.cell? ⟨b, o, none⟩ with
  | some (.int _ n) => n
  | _ => 0
theorem intAt_of {w : World} {b o : Nat} {n : Int} (h : w.cell? ⟨b, o, none⟩ = some (.int .i64 n)) : intAt w b o = n := by
  unfold intAt; rw [h]
/-- Flags that came in: their cells. -/
structure BoolsIn (w : World) (A : Option Addr) (n : Nat) (bs off : Nat) (P : Nat → Bool) : Prop where
  at_ : A = some ⟨bs, off, none⟩ ∨ n = 0
  c0 : ∀ i, i < n → w.cell? ⟨bs, off + i, none⟩ = some (.bool (P i))
theorem BoolsIn.below {w w' : World} {A : Option Addr} {n bs off : Nat} {P : Nat → Bool} (h : BoolsIn w A n bs off P) (hb : Below w.heap.size w w') : BoolsIn w' A n bs off P :=
  ⟨h.at_, fun i hi => (hb.cell (World.block_lt_of_cell? _ _ (h.c0 i hi))).trans (h.c0 i hi)⟩
theorem open_bools {H : Type} {enc : TypeId × Value → H} {w : World} {base fuel len cap : Nat} {spare : Nat → Bool} {held : Bool} {A : Option Addr} {x : DataW H × List MemPlace}
    (h : DataW.trod enc Tryd.prog w base spare held fuel 67 (Value.cells (.slice A len cap)).toList = some x) : ∃ bs off P, BoolsIn w A len bs off P ∧ len ≤ cap ∧ cap ≤ maxLen := by
  rcases open_slice1 Tryd.underlying67 (by kernel_rfl) h with ⟨hcs, _⟩ | ⟨a, l, c, m, n, V, D, Pl, hcs, hb, hl, hm, hmm, hx, hi⟩
  · simp [Value.cells] at hcs
    obtain ⟨rfl, rfl, rfl⟩ := hcs
    exact ⟨0, 0, fun _ => false, ⟨.inr rfl, by simp⟩, Nat.le_refl _, by simp⟩
  · simp [Value.cells] at hcs
    obtain ⟨rfl, rfl, rfl⟩ := hcs
    have hlm : len ≤ m := by rw [hmm]; split <;> omega
    have key : ∀ i, i < len → ∃ x0 : Bool, w.cell? (a.add i) = some (.bool x0) := by
      intro i hilt
      obtain ⟨hc, ht⟩ := hi i (by omega)
      obtain ⟨x0, e0, -⟩ := DataW.trod_bool Tryd.underlying4 ht
      simp at e0
      exact ⟨x0, by rw [hc, e0]⟩
    by_cases hz : len = 0
    · subst hz
      exact ⟨0, 0, fun _ => false, ⟨.inr rfl, by simp⟩, hl, hm⟩
    · obtain ⟨x0, h0⟩ := key 0 (by omega)
      rw [show a.add 0 = a by simp [Addr.add]] at h0
      obtain ⟨ha, hsp⟩ := add_at h0
      refine ⟨a.block, a.off, fun i => boolAt w a.block (a.off + i), ⟨.inl (by rw [← ha]), fun i hilt => ?_⟩, hl, hm⟩
      obtain ⟨x1, h1⟩ := key i hilt
      rw [hsp] at h1
      simp only [boolAt_of h1]
      exact h1
theorem trod_ints {H : Type} {enc : TypeId × Value → H} {w : World} {base fuel : Nat} {spare : Nat → Bool} {held : Bool} {v : Value} {x : DataW H × List MemPlace}
    (h : DataW.trod enc Tryd.prog w base spare held fuel 29 [v] = some x) : ∃ A n c l, v = .slice A n c ∧ n = l.length ∧ n ≤ c ∧ c ≤ maxLen ∧ IntsIn w v l := by
  rcases open_slice1 Tryd.underlying29 (by kernel_rfl) h with ⟨hcs, _⟩ | ⟨a, l, c, m, n, V, D, Pl, hcs, hb, hl, hm, hmm, hx, hi⟩
  · simp at hcs
    subst hcs
    exact ⟨none, 0, 0, [], rfl, rfl, Nat.le_refl _, by simp, IntsIn.nil w⟩
  · simp at hcs
    subst hcs
    have hlm : l ≤ m := by rw [hmm]; split <;> omega
    have key : ∀ i, i < l → ∃ x0 : Int, w.cell? (a.add i) = some (.int .i64 x0) := by
      intro i hilt
      obtain ⟨hc, ht⟩ := hi i (by omega)
      obtain ⟨x0, e0, -⟩ := DataW.trod_int Tryd.underlying3 ht
      simp at e0
      exact ⟨x0, by rw [hc, e0]⟩
    refine ⟨some a, l, c, (List.range l).map fun i => intAt w a.block (a.off + i), rfl, by simp, hl, hm, some a, c, by simp, by simp; exact hl, fun hp => ?_⟩
    have hp' : 0 < l := by simpa using hp
    obtain ⟨x0, h0⟩ := key 0 hp'
    rw [show a.add 0 = a by simp [Addr.add]] at h0
    obtain ⟨ha, hsp⟩ := add_at h0
    refine ⟨a.block, a.off, by rw [← ha], fun i hilt => ?_⟩
    obtain ⟨x1, h1⟩ := key i (by simpa using hilt)
    rw [hsp] at h1
    simp only [List.getElem_map, List.getElem_range, intAt_of h1]
    exact h1
theorem open_ints {H : Type} {enc : TypeId × Value → H} {w : World} {base fuel len cap : Nat} {spare : Nat → Bool} {held : Bool} {A : Option Addr} {x : DataW H × List MemPlace}
    (h : DataW.trod enc Tryd.prog w base spare held fuel 29 (Value.cells (.slice A len cap)).toList = some x) : ∃ l, IntsIn w (.slice A len cap) l ∧ len ≤ cap ∧ cap ≤ maxLen := by
  have h' : DataW.trod enc Tryd.prog w base spare held fuel 29 [.slice A len cap] = some x := h
  obtain ⟨A', n', c', l, e, _, h1, h2, hi⟩ := trod_ints h'
  injection e with e1 e2 e3
  subst e2 e3
  exact ⟨l, hi, h1, h2⟩
/-- Slices of numbers that came in. -/
structure ListsIn (w : World) (A : Option Addr) (n : Nat) (bs off : Nat) (V : Nat → Value) (L : Nat → List Int) : Prop where
  at_ : A = some ⟨bs, off, none⟩ ∨ n = 0
  c0 : ∀ i, i < n → w.cell? ⟨bs, off + i, none⟩ = some (V i)
  ci : ∀ i, i < n → IntsIn w (V i) (L i)
theorem ListsIn.below {w w' : World} {A : Option Addr} {n bs off : Nat} {V : Nat → Value} {L : Nat → List Int} (h : ListsIn w A n bs off V L) (hb : Below w.heap.size w w') : ListsIn w' A n bs off V L :=
  ⟨h.at_, fun i hi => (hb.cell (World.block_lt_of_cell? _ _ (h.c0 i hi))).trans (h.c0 i hi), fun i hi => (h.ci i hi).below hb⟩
end Go.Proofs.YtmcelldklmjlkaaDoor
