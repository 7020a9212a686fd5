/- The register and the reference's register beside each other. -/
import Derived.Test.YtdhbiogcaekbbaaDoorTrefA
namespace Go.Proofs.YtdhbiogcaekbbaaDoor
open Go.RowKit

theorem Ctx.onlX {W w w' : World} {b mb lb : Nat} {s : TS} (h : Ctx W w b mb lb s) (hO : Only (fun k => k = s.x) w w') (h1 : ¬ regS b mb lb s.x) (hx : W.heap.size ≤ s.x) : Ctx W w' b mb lb s := by
  obtain ⟨vi, vo, c, hT⟩ := h.at_
  refine ⟨⟨vi, vo, c, ⟨blk_onl hT.r hO fun e => h1 (.inl e.symm), hT.m.onl hO (fun e => h1 (.inr (.inl e.symm))) (fun e => h1 (.inr (.inr e.symm))), ints_onl hT.il hO fun g hg e => hT.sx g hg (.inr e), full_onl hT.ol hO fun g hg e => hT.sy g hg (.inr e), hT.sx, hT.sy, Nat.lt_of_lt_of_le hT.lx hO.size⟩⟩, h.fine, below_onl h.bel hO h.bel.size fun k e => ?_, h.gb, h.gm, h.gl⟩
  cases e
  exact hx
/-- The register at b, and the law's variable x that has the reference's one, whose slices lie in Y. -/
structure PAt (W w : World) (b mb lb x : Nat) (Y : Nat → Prop) (r : RF) (s s' : TS) : Prop where
  c : Ctx W w b mb lb s
  ri : RefIn w Y r s'
  k : Blk w x 50 r.cells
  yl : ∀ k, Y k → k < w.heap.size ∧ ¬ regS b mb lb k ∧ k ≠ x
  nx : ¬ regS b mb lb x
  hx : W.heap.size ≤ x
  sx : s.x = x
/-- What the reference told, in a variable of the law's own. -/
structure Told (w5 w : World) (b mb lb x z' : Nat) (Y : Nat → Prop) (r' : RF) (s3 : TS) : Prop where
  bel : Below w5.heap.size w5 w
  ri : RefIn w Y r' s3
  z : Blk w z' 50 r'.cells
  yl : ∀ k, Y k → k < w.heap.size ∧ ¬ regS b mb lb k ∧ k ≠ x
section
variable {W w w' : World} {b mb lb x : Nat} {Y : Nat → Prop} {r r' : RF} {s s' s2 s3 : TS}
theorem PAt.go (h : PAt W w b mb lb x Y r s s') (hb : Below w.heap.size w w') : PAt W w' b mb lb x Y r s s' :=
  ⟨h.c.below hb, h.ri.map fun _ _ k => k.below hb, h.k.below hb h.k.lt, fun k e => ⟨Nat.lt_of_lt_of_le (h.yl k e).1 hb.size, (h.yl k e).2⟩, h.nx, h.hx, h.sx⟩
/-- The register does what the reference did. -/
theorem PAt.ring (h : PAt W w b mb lb x Y r s s') (hC : Ctx W w' b mb lb s2) (hO : Only (regS b mb lb) w w') (hs : s2.x = s.x) : PAt W w' b mb lb x Y r s2 s' :=
  ⟨hC, h.ri.map fun _ _ k => k.keep fun g hg => hO.block g (h.yl g hg).1 (h.yl g hg).2.1, h.k.of (hO.block x h.k.lt h.nx), fun k e => ⟨Nat.lt_of_lt_of_le (h.yl k e).1 hO.size, (h.yl k e).2⟩, h.nx, h.hx, hs.trans h.sx⟩
theorem PAt.keepX (h : PAt W w b mb lb x Y r s s') (hO : Only (regS b mb lb) w w') {v : Value} {l : List Int} (hl : IntsX w Y v l) : IntsX w' Y v l :=
  hl.keep fun g hg => hO.block g (h.yl g hg).1 (h.yl g hg).2.1
theorem Told.pat {w5 : World} {z' : Nat} {Y0 : Nat → Prop} (h : PAt W w5 b mb lb x Y0 r s s') (t : Told w5 w b mb lb x z' Y r' s3) : PAt W (w.setRow x r'.cells) b mb lb x Y r' s s3 := by
  have hO : Only (fun k => k = s.x) w (w.setRow x r'.cells) := ⟨rfl, rfl, rfl, by simp, fun k _ hn => setRow_other _ _ _ _ (fun e => hn (e.trans h.sx.symm))⟩
  refine ⟨(h.c.below t.bel).onlX hO (by rw [h.sx]; exact h.nx) (by rw [h.sx]; exact h.hx), t.ri.map fun _ _ k => k.keep (fun g hg => setRow_other _ _ _ _ (t.yl g hg).2.2), setRow_heap _ _ _ _ 50 (0, 0) (h.k.below t.bel h.k.lt), fun k e => ⟨by simpa using (t.yl k e).1, (t.yl k e).2⟩, h.nx, h.hx, h.sx⟩
theorem Told.patX {w5 : World} {z' : Nat} (t : Told w5 w b mb lb x z' Y r' s3) {v : Value} {l : List Int} (hl : IntsX w Y v l) : IntsX (w.setRow x r'.cells) Y v l :=
  hl.keep fun g hg => setRow_other _ _ _ _ (t.yl g hg).2.2
/-- The reference's call at wb, and the variable z' made ahead of it or behind it. -/
theorem PAt.told {w5 wb wd w8 : World} {z' : Nat} {zs : Array Value} (h : PAt W w5 b mb lb x Y r s s') (h1 : Below w5.heap.size w5 wb) (h2 : Below wb.heap.size wb wd) (hR : RefIn wd (newX Y wb wd) r' s3)
    (h3 : Below wd.heap.size wd w8) (hz : Blk w8 z' 50 zs) (hg : w5.heap.size ≤ z') (hn : z' < wb.heap.size ∨ wd.heap.size ≤ z') : Told w5 (w8.setRow z' r'.cells) b mb lb x z' (newX Y wb w8) r' s3 := by
  have hs1 := h1.size
  have hs2 := h2.size
  have hs3 := h3.size
  have h12 := h1.trans (h2.mono hs1)
  have hl := h.c.lt
  have hxl := h.k.lt
  refine ⟨below_setRow (h12.trans (h3.mono h12.size)) hg _, hR.map fun _ _ k => ?_, setRow_heap _ _ zs _ 50 (0, 0) hz, fun k e => ?_⟩
  · refine ((k.below h3).keep fun g hg' => setRow_other _ _ _ _ fun e => ?_).mono fun g e => e.imp id (fun e => ⟨e.1, by omega⟩)
    rcases hg' with e' | e'
    · have := (h.yl g e').1; omega
    · have := e'.1; have := e'.2; omega
  · rcases e with e | e
    · exact ⟨by have := (h.yl k e).1; simp; omega, (h.yl k e).2⟩
    · refine ⟨by have := e.2; simpa using this, ?_, by have := e.1; omega⟩
      unfold regS
      have := e.1
      omega
theorem PAt.toldX {w5 wb wd w8 : World} {z' : Nat} (h : PAt W w5 b mb lb x Y r s s') (h1 : Below w5.heap.size w5 wb) (h2 : Below wb.heap.size wb wd) {v : Value} {l : List Int} (hl : IntsX wd (newX Y wb wd) v l)
    (h3 : Below wd.heap.size wd w8) (hg : w5.heap.size ≤ z') (hn : z' < wb.heap.size ∨ wd.heap.size ≤ z') : IntsX (w8.setRow z' r'.cells) (newX Y wb w8) v l := by
  have hs1 := h1.size
  have hs2 := h2.size
  have hs3 := h3.size
  refine ((hl.below h3).keep fun g hg' => setRow_other _ _ _ _ fun e => ?_).mono fun g e => e.imp id (fun e => ⟨e.1, by omega⟩)
  rcases hg' with e' | e'
  · have := (h.yl g e').1; omega
  · have := e'.1; have := e'.2; omega
end
theorem wrt_x (s : TS) (l : List Int) : (s.wrt l).x = s.x ∧ (s.wrt l).W = s.W := ⟨rfl, rfl⟩
end Go.Proofs.YtdhbiogcaekbbaaDoor
