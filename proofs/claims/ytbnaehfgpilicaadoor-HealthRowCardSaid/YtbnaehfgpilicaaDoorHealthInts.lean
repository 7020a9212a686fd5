/- Slices of ints that came in. (As in Same and Opens, which want the program's Same.) -/
import Derived.Test.YtbnaehfgpilicaaDoorHealthOpens
namespace Go.Proofs.YtbnaehfgpilicaaDoor
open Go.ChangeShapes Go.WideShapes Go.ChangeAt Go.RowKit Go.Deep

/-- v is a slice that reads as the list l (nil is the empty one). -/
def IntsIn (w : World) (v : Value) (l : List Int) : Prop :=
  ∃ A c, v = .slice A l.length c ∧ l.length ≤ c ∧ (0 < l.length → ∃ g o, A = some ⟨g, o, none⟩ ∧ ∀ i (h : i < l.length), w.cell? ⟨g, o + i, none⟩ = some (.int .i64 l[i]))
theorem IntsIn.nil (w : World) : IntsIn w (.slice none 0 0) [] := ⟨none, 0, rfl, Nat.le_refl _, fun h => by simp at h⟩
theorem IntsIn.keep {w w' : World} {v : Value} {l : List Int} (h : IntsIn w v l) (hk : ∀ g, g < w.heap.size → w'.heap[g]? = w.heap[g]?) : IntsIn w' v l := by
  obtain ⟨A, c, rfl, hl, hc⟩ := h
  refine ⟨A, c, rfl, hl, fun hp => ?_⟩
  obtain ⟨g, o, rfl, hcell⟩ := hc hp
  exact ⟨g, o, rfl, fun i hi => (World.cell?_of_block (a := ⟨g, o + i, none⟩) (hk g (World.block_lt_of_cell? _ _ (hcell i hi)))).trans (hcell i hi)⟩
theorem IntsIn.below {w w' : World} {v : Value} {l : List Int} (h : IntsIn w v l) (hb : Below w.heap.size w w') : IntsIn w' v l := h.keep fun g hg => hb.block g hg
theorem IntsIn.drewN {w : World} {v : Value} {l : List Int} (h : IntsIn w v l) (n : Nat) : IntsIn (w.drewN n) v l := h.keep fun _ _ => rfl
def intAt (w : World) (b o : Nat) : Int := match w.cell? ⟨b, o, none⟩ with
  | some (.int _ n) => n
  | _ => 0
theorem intAt_of {w : World} {b o : Nat} {n : Int} (h : w.cell? ⟨b, o, none⟩ = some (.int .i64 n)) : intAt w b o = n := by
  unfold intAt; rw [h]
theorem trod_ints {H : Type} {enc : TypeId × Value → H} {w : World} {base fuel : Nat} {spare : Nat → Bool} {held : Bool} {v : Value} {x : DataW H × List MemPlace}
    (h : DataW.trod enc Tryd.prog w base spare held fuel 41 [v] = some x) : ∃ A n c l, v = .slice A n c ∧ n = l.length ∧ n ≤ c ∧ c ≤ maxLen ∧ IntsIn w v l := by
  rcases open_slice1 Tryd.underlying41 (by kernel_rfl) h with ⟨hcs, _⟩ | ⟨a, l, c, m, n, V, D, Pl, hcs, hb, hl, hm, hmm, hx, hi⟩
  · simp at hcs
    subst hcs
    exact ⟨none, 0, 0, [], rfl, rfl, Nat.le_refl _, by simp, IntsIn.nil w⟩
  · simp at hcs
    subst hcs
    have hlm : l ≤ m := by rw [hmm]; split <;> omega
    have key : ∀ i, i < l → ∃ x0 : Int, w.cell? (a.add i) = some (.int .i64 x0) := by
      intro i hilt
      obtain ⟨hc, ht⟩ := hi i (by omega)
      obtain ⟨x0, e0, -⟩ := DataW.trod_int Tryd.underlying3 ht
      simp at e0
      exact ⟨x0, by rw [hc, e0]⟩
    refine ⟨some a, l, c, (List.range l).map fun i => intAt w a.block (a.off + i), rfl, by simp, hl, hm, some a, c, by simp, by simp; exact hl, fun hp => ?_⟩
    have hp' : 0 < l := by simpa using hp
    obtain ⟨x0, h0⟩ := key 0 hp'
    rw [show a.add 0 = a by simp [Addr.add]] at h0
    obtain ⟨ha, hsp⟩ := add_at h0
    refine ⟨a.block, a.off, by rw [← ha], fun i hilt => ?_⟩
    obtain ⟨x1, h1⟩ := key i (by simpa using hilt)
    rw [hsp] at h1
    simp only [List.getElem_map, List.getElem_range, intAt_of h1]
    exact h1
theorem open_ints {H : Type} {enc : TypeId × Value → H} {w : World} {base fuel len cap : Nat} {spare : Nat → Bool} {held : Bool} {A : Option Addr} {x : DataW H × List MemPlace}
    (h : DataW.trod enc Tryd.prog w base spare held fuel 41 (Value.cells (.slice A len cap)).toList = some x) : ∃ l, IntsIn w (.slice A len cap) l ∧ len ≤ cap ∧ cap ≤ maxLen := by
  have h' : DataW.trod enc Tryd.prog w base spare held fuel 41 [.slice A len cap] = some x := h
  obtain ⟨A', n', c', l, e, _, h1, h2, hi⟩ := trod_ints h'
  injection e with e1 e2 e3
  subst e2 e3
  exact ⟨l, hi, h1, h2⟩
end Go.Proofs.YtbnaehfgpilicaaDoor
