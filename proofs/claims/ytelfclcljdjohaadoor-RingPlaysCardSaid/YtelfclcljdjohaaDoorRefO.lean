/- RingPlays: the ring and the reference's ring beside each other. -/
import Derived.Test.YtelfclcljdjohaaDoorRefC
import Derived.Test.YtelfclcljdjohaaDoorRingZ
namespace Go.Proofs.YtelfclcljdjohaaDoor
open Go.RowKit

/-- All new blocks may be the law's own. -/
theorem Ctx.grow {W w w' : World} {b mb lb : Nat} {X : Nat → Prop} {s : RS} (h : Ctx W w b mb lb X s) (hb : Below w.heap.size w w') : Ctx W w' b mb lb (newX X w w') s := by
  obtain ⟨vi, vo, c, hT⟩ := h.at_
  have h2 := hT.below hb
  have hbl := hT.r.lt
  have hml := hT.m.m.lt
  have hll := hT.m.d.lt
  refine ⟨⟨vi, vo, c, ⟨h2.r, h2.m, h2.il, h2.ol, h2.si, h2.so, fun g hg e => ?_, fun g hg e => ?_, fun k e => ?_⟩⟩, h.ok, h.bel.trans (hb.mono h.bel.size), h.gb, h.gm, h.gl, fun k e => ?_⟩
  · rcases e with e | e
    · exact h2.xi g hg e
    · have := (hT.il.lt g hg).2; omega
  · rcases e with e | e
    · exact h2.xo g hg e
    · have := (hT.ol.lt g hg).2; omega
  · rcases e with e | e
    · exact h2.lx k e
    · exact e.2
  · rcases e with e | e
    · exact h.xr k e
    · unfold regS; omega
/-- The ring at b, and the law's variable x that has the reference's one, whose slices lie in Y. -/
structure PAt (W w : World) (b mb lb x : Nat) (X Y : Nat → Prop) (r : RF) (s s' : RS) : Prop where
  c : Ctx W w b mb lb X s
  ri : RefIn w Y r s'
  k : Blk w x 51 r.cells
  xx : X x
  yx : ∀ k, Y k → X k
  ny : ¬ Y x
  hx : W.heap.size ≤ x
section
variable {W w w' : World} {b mb lb x : Nat} {X Y : Nat → Prop} {r r' : RF} {s s' s2 : RS}
theorem PAt.lt (h : PAt W w b mb lb x X Y r s s') : ∀ k, X k → k < w.heap.size := by
  obtain ⟨vi, vo, c, hT⟩ := h.c.at_
  exact hT.lx
theorem PAt.go (h : PAt W w b mb lb x X Y r s s') (hb : Below w.heap.size w w') : PAt W w' b mb lb x (newX X w w') (newX Y w w') r s s' :=
  ⟨h.c.grow hb, h.ri.go hb, h.k.below hb h.k.lt, .inl h.xx, fun k e => e.imp (h.yx k) id, fun e => e.elim h.ny (fun e => by have := h.k.lt; omega), h.hx⟩
/-- The ring does what the reference did. -/
theorem PAt.ring (h : PAt W w b mb lb x X Y r s s') (hC : Ctx W w' b mb lb X s2) (hK : Kept X w w') : PAt W w' b mb lb x X Y r s2 s' :=
  ⟨hC, h.ri.map fun _ _ k => k.keep fun g hg => hK g (h.yx g hg), h.k.of (hK x h.xx), h.xx, h.yx, h.ny, h.hx⟩
/-- What the reference told is laid into a new variable, and from there into x. -/
theorem PAt.pass (h : PAt W w b mb lb x X Y r s s') {w2 : World} {zs : Array Value} {s3 : RS} (hb : Below w.heap.size w w2) (hR : RefIn w2 (newX Y w w2) r' s3) :
    PAt W (((w2.alloc (.cells zs 51)).setRow w2.heap.size r'.cells).setRow x r'.cells) b mb lb x (newX X w (w2.alloc (.cells zs 51))) (newX Y w w2) r' s s3 := by
  have hxl := h.k.lt
  have hsz := hb.size
  have h1 := h.c.grow (hb.trans (below_alloc hb.size (.cells zs 51)))
  have hZ : newX X w (w2.alloc (.cells zs 51)) w2.heap.size := .inr ⟨hb.size, by simp⟩
  have hXx : newX X w (w2.alloc (.cells zs 51)) x := .inl h.xx
  have hO : Only (fun k => k = w2.heap.size ∨ k = x) (w2.alloc (.cells zs 51)) (((w2.alloc (.cells zs 51)).setRow w2.heap.size r'.cells).setRow x r'.cells) :=
    ⟨rfl, rfl, rfl, by simp, fun k _ hn => by rw [setRow_other _ _ _ _ (fun e => hn (.inr e)), setRow_other _ _ _ _ (fun e => hn (.inl e))]⟩
  have hin : ∀ k, (k = w2.heap.size ∨ k = x) → newX X w (w2.alloc (.cells zs 51)) k := fun k e => by
    rcases e with e | e
    · rw [e]; exact hZ
    · rw [e]; exact hXx
  obtain ⟨vi, vo, c, hT⟩ := h1.at_
  refine ⟨⟨⟨vi, vo, c, hT.onl hO (fun k e => h1.xr _ (hin k e)) (fun g hg e => hT.xi g hg (hin g e)) (fun g hg e => hT.xo g hg (hin g e))⟩, h1.ok, below_onl h1.bel hO h1.bel.size (fun k e => ?_), h1.gb, h1.gm, h1.gl, h1.xr⟩, hR.map fun _ _ k => k.keep (fun g hg => ?_), ?_, hXx, fun k e => ?_, fun e => ?_, h.hx⟩
  · rcases e with e | e
    · rw [e]; exact Nat.le_trans h.c.bel.size hb.size
    · rw [e]; exact h.hx
  · have hg2 : g ≠ x ∧ g < w2.heap.size := by
      rcases hg with e | e
      · have := h.lt g (h.yx g e)
        exact ⟨fun e' => h.ny (e' ▸ e), by omega⟩
      · exact ⟨by omega, e.2⟩
    rw [setRow_other _ _ _ _ hg2.1, setRow_other _ _ _ _ (by omega), Below.heap_alloc _ _ _ hg2.2]
  · have hx2 : Blk ((w2.alloc (.cells zs 51)).setRow w2.heap.size r'.cells) x 51 r.cells :=
      (h.k.below hb hxl).of (by rw [setRow_other _ _ _ _ (by omega), Below.heap_alloc _ _ _ (by omega)])
    exact setRow_heap _ _ _ _ 51 (0, 0) hx2
  · rcases e with e | e
    · exact .inl (h.yx k e)
    · exact .inr ⟨e.1, by have := e.2; simp; omega⟩
  · rcases e with e | e
    · exact h.ny e
    · omega
theorem PAt.mid (h : PAt W w b mb lb x X Y r s s') {w2 : World} {zs : Array Value} (hb : Below w.heap.size w w2) :
    Blk ((w2.alloc (.cells zs 51)).setRow w2.heap.size r'.cells) w2.heap.size 51 r'.cells ∧ Blk ((w2.alloc (.cells zs 51)).setRow w2.heap.size r'.cells) x 51 r.cells := by
  have hxl := h.k.lt
  have hsz := hb.size
  exact ⟨setRow_heap _ _ zs _ 51 (0, 0) (heap_alloc_new w2 _), (h.k.below hb hxl).of (by rw [setRow_other _ _ _ _ (by omega), Below.heap_alloc _ _ _ (by omega)])⟩
end
end Go.Proofs.YtelfclcljdjohaaDoor
