/- The reference's ring: a step. -/
import Derived.Test.YtelfclcljdjohaaDoorRefD
import Derived.Test.YtelfclcljdjohaaDoorRefF
import Derived.Test.YtelfclcljdjohaaDoorRefG
import Derived.Test.YtelfclcljdjohaaDoorRefH
import Derived.Test.YtelfclcljdjohaaDoorRefI
namespace Go.Proofs.YtelfclcljdjohaaDoor
open Go.RowKit

theorem rpush_any {w : World} {X : Nat → Prop} {r : RF} {s : RS} (h : RefIn w X r s) (hk : s.ok) (hia : s.ia ≠ 0) :
    Calls Tryd.prog 45 #[r.v] w fun e w' => ∃ r', e = .returned (.tuple #[RF.v r', .bool s.stepW.2.1, .int .i64 s.stepW.2.2]) ∧ Below w.heap.size w w' ∧ RefIn w' (newX X w w') r' s.stepW.1 := by
  have h3 := hk.ia
  by_cases h1 : s.ia = 1
  · exact rpush1 h hk h1
  by_cases h2 : s.ia = 2
  · exact rpush2 h hk h2
  by_cases hn : s.inn < s.W
  · exact rpush3a h hk (by omega) hn
  · exact rpush3b h hk (by omega) (by have := hk.inn; omega)
theorem rpop_any {w : World} {X : Nat → Prop} {r : RF} {s : RS} (h : RefIn w X r s) (hk : s.ok) (hoa : s.oa ≠ 0) :
    Calls Tryd.prog 46 #[r.v] w fun e w' => ∃ r', e = .returned (.tuple #[RF.v r', .bool s.stepR.2.2.1, .int .i64 s.stepR.2.2.2]) ∧ Below w.heap.size w w' ∧ RefIn w' (newX X w w') r' s.stepR.1 ∧ (s.stepR.2.2.1 = true → s.stepR.2.2.2 = 0 → IntsX w' (newX X w w') r'.out.v s.stepR.2.1) := by
  have h3 := hk.oa
  by_cases h1 : s.oa = 1
  · exact (rpop1 h hk h1).mono fun e w' ⟨r', he, hb, hr⟩ => ⟨r', he, hb, hr, fun e => by rw [sr1 h1] at e; simp at e⟩
  by_cases h2 : s.oa = 2
  · exact (rpop2 h hk h2).mono fun e w' ⟨r', he, hb, hr⟩ => ⟨r', he, hb, hr, fun e e' => by rw [sr2 h2] at e e'; split at e <;> simp_all⟩
  by_cases hn : s.ol.length < s.W
  · exact (rpop3a h hk (by omega) hn).mono fun e w' ⟨r', he, hb, hr⟩ => ⟨r', he, hb, hr, fun e => by rw [sr3 (by omega), if_pos hn] at e; simp at e⟩
  · exact (rpop3b h hk (by omega) (by have := hk.ol; omega)).mono fun e w' ⟨r', he, hb, hr, ho⟩ => ⟨r', he, hb, hr, fun _ _ => by rw [ho, sr3 (by omega), if_neg hn]; exact (h.ol hoa).go hb⟩
/-- Behind a call: its value is laid into a new variable at z, and from there into the result at y. -/
structure Passed (w wc w2 : World) (y : Nat) (cs : Array Value) (zs : Array Value) : Prop where
  hz : zs.size = 22
  cz : cs.size = 22
  hy : ∃ ys : Array Value, ys.size = 22 ∧ Blk w2 y 51 ys
  ny : y < wc.heap.size
  gy : w.heap.size ≤ y
  b1 : Below w.heap.size w w2
  b2 : wc.heap.size ≤ w2.heap.size
def pass (w2 : World) (y : Nat) (cs zs : Array Value) : World := ((w2.alloc (.cells zs 51)).setRow w2.heap.size cs).setRow y cs
section
variable {w wc w2 : World} {y : Nat} {cs zs : Array Value} {X : Nat → Prop}
theorem Passed.z1 (_ : Passed w wc w2 y cs zs) : Blk ((w2.alloc (.cells zs 51)).setRow w2.heap.size cs) w2.heap.size 51 cs := setRow_heap _ _ zs cs 51 (0, 0) (heap_alloc_new w2 _)
theorem Passed.y1 (h : Passed w wc w2 y cs zs) : ∃ ys : Array Value, ys.size = 22 ∧ Blk ((w2.alloc (.cells zs 51)).setRow w2.heap.size cs) y 51 ys := by
  obtain ⟨ys, hs, hb⟩ := h.hy
  have := h.ny
  have := h.b2
  exact ⟨ys, hs, hb.of (by rw [setRow_other _ _ _ _ (by omega), Below.heap_alloc _ _ _ (by omega)])⟩
theorem Passed.y2 (h : Passed w wc w2 y cs zs) : Blk (pass w2 y cs zs) y 51 cs := by
  obtain ⟨ys, _, hb⟩ := h.y1
  exact setRow_heap _ _ ys cs 51 (0, 0) hb
theorem Passed.bel (h : Passed w wc w2 y cs zs) : Below w.heap.size w (pass w2 y cs zs) :=
  below_setRow (below_setRow (h.b1.trans (below_alloc h.b1.size _)) h.b1.size cs) h.gy cs
theorem Passed.keep (h : Passed w wc w2 y cs zs) (hX : ∀ k, X k → k < w.heap.size) (g : Nat) (hg : newX X wc w2 g) : (pass w2 y cs zs).heap[g]? = w2.heap[g]? := by
  have h1 := h.ny
  have h2 := h.b2
  have h3 := h.gy
  have h4 := h.b1.size
  have hne : g ≠ y ∧ g < w2.heap.size := by
    rcases hg with e | e
    · have := hX g e; omega
    · omega
  unfold pass
  rw [setRow_other _ _ _ _ hne.1, setRow_other _ _ _ _ (by omega), Below.heap_alloc _ _ _ hne.2]
theorem Passed.sub (_ : Passed w wc w2 y cs zs) (hw : w.heap.size ≤ wc.heap.size) (g : Nat) (hg : newX X wc w2 g) : newX X w (pass w2 y cs zs) g := by
  have hs : (pass w2 y cs zs).heap.size = w2.heap.size + 1 := by unfold pass; simp
  rcases hg with e | ⟨e, e'⟩
  · exact .inl e
  · exact .inr ⟨by omega, by omega⟩
end
end Go.Proofs.YtelfclcljdjohaaDoor
