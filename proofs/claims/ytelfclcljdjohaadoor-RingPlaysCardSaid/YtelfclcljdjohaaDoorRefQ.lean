/- The reference's call told something: it is laid into a variable z made at any time, and from there into x. -/
import Derived.Test.YtelfclcljdjohaaDoorRefP
namespace Go.Proofs.YtelfclcljdjohaaDoor
open Go.RowKit

/-- A variable z' of the law's own, of the reference's type. -/
structure PV (W w : World) (x z' : Nat) (X Y : Nat → Prop) (zs : Array Value) : Prop where
  zz : Blk w z' 51 zs
  hz : zs.size = 22
  xz : X z'
  nz : ¬ Y z'
  ne : z' ≠ x
  gz : W.heap.size ≤ z'
/-- The ring has s, x has r, and r' (whose state is s3) is what the reference told. -/
structure Told (W w : World) (b mb lb x z' : Nat) (X Y : Nat → Prop) (r r' : RF) (zs : Array Value) (s s3 : RS) : Prop where
  c : Ctx W w b mb lb X s
  ri : RefIn w Y r' s3
  k : Blk w x 51 r.cells
  v : PV W w x z' X Y zs
  xx : X x
  yx : ∀ k, Y k → X k
  ny : ¬ Y x
  hx : W.heap.size ≤ x
section
variable {W w w' w2 : World} {b mb lb x z' : Nat} {X Y : Nat → Prop} {r r' : RF} {s s' s3 : RS} {zs : Array Value}
theorem PV.go (h : PV W w x z' X Y zs) (hb : Below w.heap.size w w') : PV W w' x z' (newX X w w') (newX Y w w') zs :=
  ⟨h.zz.below hb h.zz.lt, h.hz, .inl h.xz, fun e => e.elim h.nz (fun e => by have := h.zz.lt; omega), h.ne, h.gz⟩
theorem PAt.var (h : PAt W w b mb lb x X Y r s s') (hz : zs.size = 22) :
    PAt W (w.alloc (.cells zs 51)) b mb lb x (newX X w (w.alloc (.cells zs 51))) Y r s s' ∧
    PV W (w.alloc (.cells zs 51)) x w.heap.size (newX X w (w.alloc (.cells zs 51))) Y zs := by
  have hb := below_alloc (Nat.le_refl w.heap.size) (.cells zs 51)
  refine ⟨⟨h.c.grow hb, h.ri.map fun _ _ k => k.below hb, h.k.below hb h.k.lt, .inl h.xx, fun k e => .inl (h.yx k e), h.ny, h.hx⟩, heap_alloc_new w _, hz, .inr ⟨Nat.le_refl _, by simp⟩, fun e => by have := h.lt _ (h.yx _ e); omega, fun e => by have := h.k.lt; omega, h.c.bel.size⟩
theorem PAt.told (h : PAt W w b mb lb x X Y r s s') (hv : PV W w x z' X Y zs) (hb : Below w.heap.size w w2) (hR : RefIn w2 (newX Y w w2) r' s3) :
    Told W w2 b mb lb x z' (newX X w w2) (newX Y w w2) r r' zs s s3 := by
  have h2 := h.go hb
  exact ⟨h2.c, hR, h2.k, hv.go hb, h2.xx, h2.yx, h2.ny, h2.hx⟩
theorem PAt.told_late (h : PAt W w b mb lb x X Y r s s') (hb : Below w.heap.size w w2) (hR : RefIn w2 (newX Y w w2) r' s3) (hz : zs.size = 22) :
    Told W (w2.alloc (.cells zs 51)) b mb lb x w2.heap.size (newX X w (w2.alloc (.cells zs 51))) (newX Y w w2) r r' zs s s3 := by
  have hb2 := hb.trans (below_alloc hb.size (.cells zs 51))
  have h2 := h.go hb2
  have hs := hb.size
  refine ⟨h2.c, hR.map fun _ _ k => k.below (below_alloc (Nat.le_refl _) _), h2.k, ⟨heap_alloc_new w2 _, hz, .inr ⟨hs, by simp⟩, fun e => ?_, fun e => by have := h.k.lt; omega, Nat.le_trans h.c.bel.size hs⟩, h2.xx, fun k e => ?_, fun e => ?_, h.hx⟩
  · rcases e with e | e
    · have := h.lt _ (h.yx _ e); omega
    · have := e.2; omega
  · rcases e with e | e
    · exact .inl (h.yx k e)
    · exact .inr ⟨e.1, by have := e.2; simp; omega⟩
  · exact e.elim h.ny (fun e => by have := h.k.lt; omega)
/-- Laid into the variable. -/
theorem Told.put (h : Told W w b mb lb x z' X Y r r' zs s s3) : Told W (w.setRow z' r'.cells) b mb lb x z' X Y r r' r'.cells s s3 := by
  have hO : Only (fun k => k = z') w (w.setRow z' r'.cells) := ⟨rfl, rfl, rfl, by simp, fun k _ hn => setRow_other _ _ _ _ hn⟩
  obtain ⟨vi, vo, c, hT⟩ := h.c.at_
  refine ⟨⟨⟨vi, vo, c, hT.onl hO (fun k e => by rw [e]; exact h.c.xr _ h.v.xz) (fun g hg e => hT.xi g hg (by rw [e]; exact h.v.xz)) (fun g hg e => hT.xo g hg (by rw [e]; exact h.v.xz))⟩, h.c.ok, below_onl h.c.bel hO h.c.bel.size (fun k e => by rw [e]; exact h.v.gz), h.c.gb, h.c.gm, h.c.gl, h.c.xr⟩, h.ri.map fun _ _ k => k.keep (fun g hg => setRow_other _ _ _ _ (fun e => h.v.nz (e ▸ hg))), h.k.of (setRow_other _ _ _ _ (Ne.symm h.v.ne)), ⟨setRow_heap _ _ zs _ 51 (0, 0) h.v.zz, rfl, h.v.xz, h.v.nz, h.v.ne, h.v.gz⟩, h.xx, h.yx, h.ny, h.hx⟩
/-- And from there into x. -/
theorem Told.pat (h : Told W w b mb lb x z' X Y r r' zs s s3) : PAt W (w.setRow x r'.cells) b mb lb x X Y r' s s3 := by
  have hO : Only (fun k => k = x) w (w.setRow x r'.cells) := ⟨rfl, rfl, rfl, by simp, fun k _ hn => setRow_other _ _ _ _ hn⟩
  obtain ⟨vi, vo, c, hT⟩ := h.c.at_
  exact ⟨⟨⟨vi, vo, c, hT.onl hO (fun k e => by rw [e]; exact h.c.xr _ h.xx) (fun g hg e => hT.xi g hg (by rw [e]; exact h.xx)) (fun g hg e => hT.xo g hg (by rw [e]; exact h.xx))⟩, h.c.ok, below_onl h.c.bel hO h.c.bel.size (fun k e => by rw [e]; exact h.hx), h.c.gb, h.c.gm, h.c.gl, h.c.xr⟩, h.ri.map fun _ _ k => k.keep (fun g hg => setRow_other _ _ _ _ (fun e => h.ny (e ▸ hg))), setRow_heap _ _ _ _ 51 (0, 0) h.k, h.xx, h.yx, h.ny, h.hx⟩
theorem Told.keepX {v : Value} {l : List Int} (h : Told W w b mb lb x z' X Y r r' zs s s3) (hl : IntsX w Y v l) : IntsX (w.setRow z' r'.cells) Y v l :=
  hl.keep fun _ hg => setRow_other _ _ _ _ (fun e => h.v.nz (e ▸ hg))
theorem Told.patX {v : Value} {l : List Int} (h : Told W w b mb lb x z' X Y r r' zs s s3) (hl : IntsX w Y v l) : IntsX (w.setRow x r'.cells) Y v l :=
  hl.keep fun _ hg => setRow_other _ _ _ _ (fun e => h.ny (e ▸ hg))
theorem step_len30 (h : s.ok) (x : Bool) : (s.step x).2.1.length ≤ 1073741824 := by
  have h1 := h.ol
  have h2 := h.w6
  cases x
  · have h3 : s.stepR.2.1 = [] ∨ s.stepR.2.1 = s.ol := by
      unfold RS.stepR
      repeat (first | exact .inl rfl | exact .inr rfl | split)
    change s.stepR.2.1.length ≤ _
    rcases h3 with h3 | h3
    · simp [h3]
    · rw [h3]; omega
  · simp [RS.step]
end
end Go.Proofs.YtelfclcljdjohaaDoor
