/- The register and the reference's register beside each other. -/
import Derived.Test.YthpggeiacbdakaaDoorFrefA
namespace Go.Proofs.YthpggeiacbdakaaDoor
open Go.RowKit

/-- Of the law's own blocks some may be forgotten. -/
theorem Ctx.monoX {W w : World} {b mb lb : Nat} {X Y : Nat → Prop} {s : FS} (h : Ctx W w b mb lb X s) (hXY : ∀ k, Y k → X k) : Ctx W w b mb lb Y s := by
  obtain ⟨Z, vl, vi, vr, vo, c, hF, hL, hR⟩ := h.at_
  exact ⟨⟨Z, vl, vi, vr, vo, c, ⟨hF.r, hF.m, hF.il, hF.ol, fun g hg => ⟨(hF.so g hg).1, (hF.so g hg).2.1, fun e => (hF.so g hg).2.2 (hXY g e)⟩, fun k e => ⟨(hF.z k e).1, (hF.z k e).2.1, fun f => (hF.z k e).2.2 (hXY k f)⟩, fun k e => hF.x k (hXY k e)⟩, hL, hR⟩, h.ok, h.bel, h.gb, h.gm, h.gl⟩
/-- The law's variable, and what the reference's register leans on. -/
def lawX (x : Nat) (Y : Nat → Prop) : Nat → Prop := fun k => k = x ∨ Y k
/-- The register at b, and the law's variable x that has the reference's one, whose slices lie in Y. -/
structure PAt (W w : World) (b mb lb x : Nat) (Y : Nat → Prop) (r : RF) (s s' : FS) : Prop where
  c : Ctx W w b mb lb (lawX x Y) s
  ri : RefIn w Y r s'
  k : Blk w x 50 r.cells
  nx : ¬ Y x
  hx : W.heap.size ≤ x
/-- What the reference told, in a variable of the law's own. -/
structure Told (w5 w : World) (x z' : Nat) (Y0 Y : Nat → Prop) (r' : RF) (s3 : FS) : Prop where
  bel : Below w5.heap.size w5 w
  ri : RefIn w Y r' s3
  z : Blk w z' 50 r'.cells
  yl : ∀ k, Y k → newX Y0 w5 w k
  yx : ¬ Y x
section
variable {W w w' : World} {b mb lb x : Nat} {Y : Nat → Prop} {r r' : RF} {s s' s2 s3 : FS}
theorem PAt.yl (h : PAt W w b mb lb x Y r s s') : ∀ k, Y k → k < w.heap.size ∧ k ≠ x := fun k e => ⟨h.c.lt k (.inr e), fun f => h.nx (f ▸ e)⟩
theorem PAt.go (h : PAt W w b mb lb x Y r s s') (hb : Below w.heap.size w w') : PAt W w' b mb lb x Y r s s' :=
  ⟨h.c.below hb, h.ri.map fun _ _ k => k.below hb, h.k.below hb h.k.lt, h.nx, h.hx⟩
/-- The register does what the reference did. -/
theorem PAt.ring (h : PAt W w b mb lb x Y r s s') (hC : Ctx W w' b mb lb (lawX x Y) s2) (hO : Kept (lawX x Y) w w') : PAt W w' b mb lb x Y r s2 s' :=
  ⟨hC, h.ri.map fun _ _ k => k.keep fun g hg => hO g (.inr hg), h.k.of (hO x (.inl rfl)), h.nx, h.hx⟩
theorem PAt.keepX (_ : PAt W w b mb lb x Y r s s') (hO : Kept (lawX x Y) w w') {v : Value} {l : List Int} (hl : IntsX w Y v l) : IntsX w' Y v l :=
  hl.keep fun g hg => hO g (.inr hg)
theorem Told.pat {w5 : World} {z' : Nat} {Y0 : Nat → Prop} (h : PAt W w5 b mb lb x Y0 r s s') (t : Told w5 w x z' Y0 Y r' s3) : PAt W (w.setRow x r'.cells) b mb lb x Y r' s s3 := by
  have hO : Only (fun k => k = x) w (w.setRow x r'.cells) := ⟨rfl, rfl, rfl, by simp, fun k _ hn => setRow_other _ _ _ _ hn⟩
  have h1 : Ctx W w b mb lb (lawX x Y) s := (h.c.grow t.bel).monoX fun k e => by
    rcases e with e | e
    · exact .inl (.inl e)
    · exact (t.yl k e).imp .inr id
  exact ⟨h1.onlX hO (fun k e => .inl e) (fun k e => by rw [e]; exact h.hx), t.ri.map fun _ _ k => k.keep (fun g hg => setRow_other _ _ _ _ (fun f => t.yx (f ▸ hg))), setRow_heap _ _ _ _ 50 (0, 0) (h.k.below t.bel h.k.lt), t.yx, h.hx⟩
theorem Told.patX {w5 : World} {z' : Nat} {Y0 : Nat → Prop} (t : Told w5 w x z' Y0 Y r' s3) {v : Value} {l : List Int} (hl : IntsX w Y v l) : IntsX (w.setRow x r'.cells) Y v l :=
  hl.keep fun _ hg => setRow_other _ _ _ _ (fun f => t.yx (f ▸ hg))
/-- The reference's call at wb, and the variable z' made ahead of it or behind it. -/
theorem PAt.told {w5 wb wd w8 : World} {z' : Nat} {zs : Array Value} (h : PAt W w5 b mb lb x Y r s s') (h1 : Below w5.heap.size w5 wb) (h2 : Below wb.heap.size wb wd) (hR : RefIn wd (newX Y wb wd) r' s3)
    (h3 : Below wd.heap.size wd w8) (hz : Blk w8 z' 50 zs) (hg : w5.heap.size ≤ z') (hn : z' < wb.heap.size ∨ wd.heap.size ≤ z') : Told w5 (w8.setRow z' r'.cells) x z' Y (newX Y wb w8) r' s3 := by
  have hs1 := h1.size
  have hs2 := h2.size
  have hs3 := h3.size
  have h12 := h1.trans (h2.mono hs1)
  have hxl := h.k.lt
  refine ⟨below_setRow (h12.trans (h3.mono h12.size)) hg _, hR.map fun _ _ k => ?_, setRow_heap _ _ zs _ 50 (0, 0) hz, fun k e => ?_, fun e => ?_⟩
  · refine ((k.below h3).keep fun g hg' => setRow_other _ _ _ _ fun e => ?_).mono fun g e => e.imp id (fun e => ⟨e.1, by omega⟩)
    rcases hg' with e' | e'
    · have := (h.yl g e').1; omega
    · have := e'.1; have := e'.2; omega
  · refine e.imp id fun e => ⟨by have := e.1; omega, ?_⟩
    have := e.2
    simpa using this
  · rcases e with e | e
    · exact h.nx e
    · have := e.1; omega
theorem PAt.toldX {w5 wb wd w8 : World} {z' : Nat} (h : PAt W w5 b mb lb x Y r s s') (h1 : Below w5.heap.size w5 wb) (h2 : Below wb.heap.size wb wd) {v : Value} {l : List Int} (hl : IntsX wd (newX Y wb wd) v l)
    (h3 : Below wd.heap.size wd w8) (hg : w5.heap.size ≤ z') (hn : z' < wb.heap.size ∨ wd.heap.size ≤ z') : IntsX (w8.setRow z' r'.cells) (newX Y wb w8) v l := by
  have hs1 := h1.size
  have hs2 := h2.size
  have hs3 := h3.size
  refine ((hl.below h3).keep fun g hg' => setRow_other _ _ _ _ fun e => ?_).mono fun g e => e.imp id (fun e => ⟨e.1, by omega⟩)
  rcases hg' with e' | e'
  · have := (h.yl g e').1; omega
  · have := e'.1; have := e'.2; omega
end
end Go.Proofs.YthpggeiacbdakaaDoor
