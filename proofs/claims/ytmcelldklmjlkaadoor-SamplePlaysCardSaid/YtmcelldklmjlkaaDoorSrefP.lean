/- The port and the reference's port beside each other. -/
import Derived.Test.YtmcelldklmjlkaaDoorSrefF
namespace Go.Proofs.YtmcelldklmjlkaaDoor
open Go.RowKit

/-- The port, the law's variable, and what the reference's port leans on. -/
def lawY (pb x : Nat) (Y : Nat → Prop) : Nat → Prop := fun k => k = pb ∨ k = x ∨ Y k
/-- The port at pb, and the law's variable x that has the reference's one, whose slices lie in Y. -/
structure PA (W w : World) (pb kb b mb lb x : Nat) (Y : Nat → Prop) (f : PF) (p p' : SP) : Prop where
  c : ∃ V, Below W.heap.size W V ∧ PCtx V w pb kb b mb lb (lawY pb x Y) p
  ri : PRefIn w Y f p'
  k : Blk w x 48 f.cells
  nx : ¬ Y x
  np : ¬ Y pb
  xp : x ≠ pb
  xk : x ≠ kb
  hx : W.heap.size ≤ x
/-- What the reference told, in a variable of the law's own. -/
structure PTold (w5 w : World) (pb x z' : Nat) (Y0 Y : Nat → Prop) (f' : PF) (p3 : SP) : Prop where
  bel : Below w5.heap.size w5 w
  ri : PRefIn w Y f' p3
  z : Blk w z' 48 f'.cells
  yl : ∀ k, Y k → newX Y0 w5 w k
  yx : ¬ Y x
  yp : ¬ Y pb
section
variable {W w w' : World} {pb kb b mb lb x : Nat} {Y : Nat → Prop} {f f' : PF} {p p' p2 p3 : SP}
theorem PA.lt (h : PA W w pb kb b mb lb x Y f p p') : ∀ k, lawY pb x Y k → k < w.heap.size := by
  obtain ⟨V, -, hC⟩ := h.c
  exact hC.c.lt
theorem PA.yl (h : PA W w pb kb b mb lb x Y f p p') : ∀ k, Y k → k < w.heap.size ∧ k ≠ x := fun k e => ⟨h.lt k (.inr (.inr e)), fun g => h.nx (g ▸ e)⟩
theorem PA.pbl (h : PA W w pb kb b mb lb x Y f p p') : pb < w.heap.size := h.lt pb (.inl rfl)
theorem PA.bel (h : PA W w pb kb b mb lb x Y f p p') : Below W.heap.size W w := by
  obtain ⟨V, hV, hC⟩ := h.c
  exact hV.trans (hC.bel.mono hV.size)
theorem PA.ok (h : PA W w pb kb b mb lb x Y f p p') : p.ok ∧ p.s.ok := by
  obtain ⟨V, -, hC⟩ := h.c
  exact ⟨hC.ok, hC.c.ok⟩
theorem PA.go (h : PA W w pb kb b mb lb x Y f p p') (hb : Below w.heap.size w w') : PA W w' pb kb b mb lb x Y f p p' :=
  ⟨by obtain ⟨V, hV, hC⟩ := h.c; exact ⟨V, hV, hC.below hb⟩, h.ri.map fun _ _ k => k.below hb, h.k.below hb h.k.lt, h.nx, h.np, h.xp, h.xk, h.hx⟩
/-- The port does what the reference did. -/
theorem PA.ring {V : World} (h : PA W w pb kb b mb lb x Y f p p') (hV : Below W.heap.size W V) (hC : PCtx V w' pb kb b mb lb (lawY pb x Y) p2) (hO : PKept pb (lawY pb x Y) w w') : PA W w' pb kb b mb lb x Y f p2 p' :=
  ⟨⟨V, hV, hC⟩, h.ri.map fun _ _ k => k.keep fun g hg => hO g (.inr (.inr hg)) (fun e => h.np (e ▸ hg)), h.k.of (hO x (.inr (.inl rfl)) h.xp), h.nx, h.np, h.xp, h.xk, h.hx⟩
/-- A variable of the law's that was there ahead of the port is written. -/
theorem PCtx.rebase {V : World} {X : Nat → Prop} {t : TypeId} {old cs : Array Value} (h : PCtx V w pb kb b mb lb X p) (hx : Blk w x t old) (hX : X x) (hl : x < V.heap.size) (hk : x ≠ kb) (hp : x ≠ pb) : PCtx (V.setRow x cs) (w.setRow x cs) pb kb b mb lb X p := by
  have hO : Only (fun k => k = x) w (w.setRow x cs) := ⟨rfl, rfl, rfl, by simp, fun k _ hn => setRow_other _ _ _ _ hn⟩
  obtain ⟨Z, vl, vi, vr, vo, c, hF, hL, hR⟩ := h.c.at_
  have hkz : ∀ g, Z g → (w.setRow x cs).heap[g]? = w.heap[g]? := fun g hg => hO.block g (hF.z g hg).1 fun e => (hF.z g hg).2.2 (by rw [e]; exact hX)
  have hs : (V.setRow x cs).heap.size = V.heap.size := by simp
  obtain ⟨a1, a2, a3, a4, a5⟩ := h.c.bel
  refine ⟨⟨⟨Z, vl, vi, vr, vo, c, by rw [hs]; exact hF.onl hO (fun k e => by rw [e]; exact (hF.x x hX).2) (fun k e f => (hF.z k f).2.2 (by rw [e]; exact hX)) (fun g hg e => (hF.so g hg).2.2 (by rw [e]; exact hX)), hL.keep hkz, hR.keep hkz⟩, h.c.ok, ⟨a1, a2, a3, by simpa using a4, fun k hk' => ?_⟩, by rw [hs]; exact h.c.gb, by rw [hs]; exact h.c.gm, by rw [hs]; exact h.c.gl⟩, blk_onl h.k hO (fun e => hp e.symm), ?_, h.xp, by rw [hs]; exact h.gp, h.ok⟩
  · rw [hs] at hk'
    by_cases e : k = x
    · subst e
      have hV : Blk V k t old := (a5 k hl).symm.trans hx
      exact (setRow_heap _ _ old cs t (0, 0) hx).trans (setRow_heap _ _ old cs t (0, 0) hV).symm
    · rw [setRow_other _ _ _ _ e, setRow_other _ _ _ _ e]
      exact a5 k hk'
  · rw [cell_setRow_other _ _ _ _ (Ne.symm hk)]
    exact h.f
theorem PTold.pat {w5 : World} {z' : Nat} {Y0 : Nat → Prop} (h : PA W w5 pb kb b mb lb x Y0 f p p') (t : PTold w5 w pb x z' Y0 Y f' p3) : PA W (w.setRow x f'.cells) pb kb b mb lb x Y f' p p3 := by
  obtain ⟨V, hV, hC⟩ := h.c
  have hO : Only (fun k => k = x) w (w.setRow x f'.cells) := ⟨rfl, rfl, rfl, by simp, fun k _ hn => setRow_other _ _ _ _ hn⟩
  have h1 : PCtx V w pb kb b mb lb (lawY pb x Y) p := (hC.grow t.bel).less (fun k e => by
    rcases e with e | e | e
    · exact .inl (.inl e)
    · exact .inl (.inr (.inl e))
    · exact (t.yl k e).imp (fun e => .inr (.inr e)) id) (.inl rfl)
  have hxw := h.k.below t.bel h.k.lt
  refine ⟨?_, t.ri.map fun _ _ k => k.keep (fun g hg => setRow_other _ _ _ _ (fun e => t.yx (e ▸ hg))), setRow_heap _ _ _ _ 48 (0, 0) hxw, t.yx, t.yp, h.xp, h.xk, h.hx⟩
  by_cases hl : x < V.heap.size
  · exact ⟨_, below_setRow hV h.hx f'.cells, h1.rebase hxw (.inr (.inl rfl)) hl h.xk h.xp⟩
  · exact ⟨V, hV, h1.onlX hO (fun k e => .inr (.inl e)) (fun k e => by rw [e]; omega) (Ne.symm h.xp)⟩
/-- The reference's call at wb, and the variable z' made ahead of it or behind it. -/
theorem PA.told {w5 wb wd w8 : World} {z' : Nat} {zs : Array Value} (h : PA W w5 pb kb b mb lb x Y f p p') (h1 : Below w5.heap.size w5 wb) (h2 : Below wb.heap.size wb wd) (hR : PRefIn wd (newX Y wb wd) f' p3)
    (h3 : Below wd.heap.size wd w8) (hz : Blk w8 z' 48 zs) (hg : w5.heap.size ≤ z') (hn : z' < wb.heap.size ∨ wd.heap.size ≤ z') : PTold w5 (w8.setRow z' f'.cells) pb x z' Y (newX Y wb w8) f' p3 := by
  have hs1 := h1.size
  have hs2 := h2.size
  have hs3 := h3.size
  have h12 := h1.trans (h2.mono hs1)
  have hxl := h.k.lt
  have hpl := h.pbl
  refine ⟨below_setRow (h12.trans (h3.mono h12.size)) hg _, hR.map fun _ _ k => ?_, setRow_heap _ _ zs _ 48 (0, 0) hz, fun k e => ?_, fun e => ?_, fun e => ?_⟩
  · refine ((k.below h3).keep fun g hg' => setRow_other _ _ _ _ fun e => ?_).mono fun g e => e.imp id (fun e => ⟨e.1, by omega⟩)
    rcases hg' with e' | e'
    · have := (h.yl g e').1; omega
    · have := e'.1; have := e'.2; omega
  · refine e.imp id fun e => ⟨by have := e.1; omega, ?_⟩
    have := e.2
    simpa using this
  · exact e.elim h.nx fun e => by have := e.1; omega
  · exact e.elim h.np fun e => by have := e.1; omega
end
/-- The reference's step: its port and its value go into variables z' and zv. -/
theorem PA.told2 {W w5 wb wd w8 : World} {pb kb b mb lb x z' zv : Nat} {Y : Nat → Prop} {f f' : PF} {p p' p3 : SP} {zs vs : Array Value} {u : Value} {vv : SV} (cs : Array Value) (h : PA W w5 pb kb b mb lb x Y f p p') (h1 : Below w5.heap.size w5 wb) (h2 : Below wb.heap.size wb wd) (hR : PRefIn wd (newX Y wb wd) f' p3) (hu : WordsAt wb.heap.size wd u vv)
    (h3 : Below wd.heap.size wd w8) (hz : Blk w8 z' 48 zs) (hv : Blk w8 zv 59 vs) (hg : w5.heap.size ≤ z') (hn : z' < wb.heap.size ∨ wd.heap.size ≤ z') (gv : w5.heap.size ≤ zv) (nv : zv < wb.heap.size ∨ wd.heap.size ≤ zv) (ne : z' ≠ zv) :
    PTold w5 ((w8.setRow z' f'.cells).setRow zv cs) pb x z' Y (newX Y wb w8) f' p3 ∧ Blk ((w8.setRow z' f'.cells).setRow zv cs) zv 59 cs ∧ IntsIn ((w8.setRow z' f'.cells).setRow zv cs) u vv.l := by
  have hs1 := h1.size
  have hs2 := h2.size
  have hs3 := h3.size
  have h12 := h1.trans (h2.mono hs1)
  have hxl := h.k.lt
  have hpl := h.pbl
  have hk : ∀ k, k < wd.heap.size → k ≠ z' → k ≠ zv → ((w8.setRow z' f'.cells).setRow zv cs).heap[k]? = w8.heap[k]? := fun k _ a c => by rw [setRow_other _ _ _ _ c, setRow_other _ _ _ _ a]
  refine ⟨⟨below_setRow (below_setRow (h12.trans (h3.mono h12.size)) hg _) gv _, hR.map fun _ _ k => ?_, ?_, fun k e => ?_, fun e => ?_, fun e => ?_⟩, ?_, ?_⟩
  · refine ((k.below h3).keep fun g hg' => hk g ?_ (fun e => ?_) (fun e => ?_)).mono fun g e => e.imp id (fun e => ⟨e.1, by simpa using Nat.lt_of_lt_of_le e.2 hs3⟩)
    · rcases hg' with e' | e'
      · have := (h.yl g e').1; omega
      · exact e'.2
    · rcases hg' with e' | e'
      · have := (h.yl g e').1; omega
      · have := e'.1; have := e'.2; omega
    · rcases hg' with e' | e'
      · have := (h.yl g e').1; omega
      · have := e'.1; have := e'.2; omega
  · exact (setRow_other _ _ _ _ ne).trans (setRow_heap _ _ zs _ 48 (0, 0) hz)
  · refine e.imp id fun e => ⟨by have := e.1; omega, ?_⟩
    have := e.2
    simpa using this
  · exact e.elim h.nx fun e => by have := e.1; omega
  · exact e.elim h.np fun e => by have := e.1; omega
  · exact setRow_heap _ _ vs _ 59 (0, 0) ((setRow_other _ _ _ _ (Ne.symm ne)).trans hv)
  · refine words_onl (hu.1.below h3) (S := fun k => k = z' ∨ k = zv) (fun g hg' e => ?_) ⟨rfl, rfl, rfl, by simp, fun k _ hn => by rw [setRow_other _ _ _ _ (fun e => hn (.inr e)), setRow_other _ _ _ _ (fun e => hn (.inl e))]⟩
    have := hu.2 g hg'
    rcases e with e | e <;> omega
/-- The reference's first port goes into the law's variable, made ahead of the port's or behind it. -/
theorem pa_new {W V w2 w3 w8 : World} {pb kb b mb lb z : Nat} {X : Nat → Prop} {f : PF} {p : SP} (hV : Below W.heap.size W V) (hC : PCtx V w2 pb kb b mb lb X p) (hR : PRefIn w3 (From w2.heap.size w3) f p) (hb : Below w2.heap.size w2 w3) (hb8 : Below w3.heap.size w3 w8)
    (hz : Blk w8 z 48 zero22) (hg : W.heap.size ≤ z) (hn : X z ∧ z < V.heap.size ∨ w2.heap.size ≤ z ∧ V.heap.size ≤ z) (hk : z ≠ kb) (hzp : z ≠ pb) (hz3 : z < w2.heap.size ∨ w3.heap.size ≤ z) :
    PA W (w8.setRow z f.cells) pb kb b mb lb z (From w2.heap.size w3) f p p := by
  have hs := hb.size
  have hs8 := hb8.size
  have hpl := hC.c.lt pb hC.xp
  have hzl := hz.lt
  have hb2 : Below w2.heap.size w2 w8 := hb.trans (hb8.mono hs)
  have h1 : PCtx V w8 pb kb b mb lb (lawY pb z (From w2.heap.size w3)) p := (hC.grow hb2).less (fun k e => by
    rcases e with rfl | rfl | e
    · exact .inl hC.xp
    · exact hn.imp (fun e => e.1) fun e => ⟨e.1, hzl⟩
    · exact .inr ⟨e.1, by have := e.2; omega⟩) (.inl rfl)
  have hO : Only (fun k => k = z) w8 (w8.setRow z f.cells) := ⟨rfl, rfl, rfl, by simp, fun k _ hn => setRow_other _ _ _ _ hn⟩
  refine ⟨?_, hR.map fun _ _ k => (k.below hb8).keep (fun g hg => setRow_other _ _ _ _ (by have := hg.1; have := hg.2; omega)), setRow_heap _ _ zero22 _ 48 (0, 0) hz, fun e => by have := e.1; have := e.2; omega, fun e => by have := e.1; omega, hzp, hk, hg⟩
  rcases hn with ⟨h2, h3⟩ | ⟨h2, h3⟩
  · exact ⟨_, below_setRow hV hg f.cells, h1.rebase hz (.inr (.inl rfl)) h3 hk hzp⟩
  · exact ⟨V, hV, h1.onlX hO (fun k e => .inr (.inl e)) (fun k e => by rw [e]; exact h3) (Ne.symm hzp)⟩
end Go.Proofs.YtmcelldklmjlkaaDoor
