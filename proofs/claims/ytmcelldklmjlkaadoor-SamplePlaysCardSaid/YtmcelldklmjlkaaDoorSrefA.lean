/- The reference's port: its value; what a call of the register's reference leaves behind. -/
import Derived.Test.YtmcelldklmjlkaaDoorFrefS
import Derived.Test.YtmcelldklmjlkaaDoorFrefN
import Derived.Test.YtmcelldklmjlkaaDoorFrefC
import Derived.Test.YtmcelldklmjlkaaDoorFrefB
import Derived.Test.YtmcelldklmjlkaaDoorSampP
import Derived.Deep.MidRow
namespace Go.Proofs.YtmcelldklmjlkaaDoor
open Go.RowKit

structure PF where
  wo : Int
  re : Int
  se : Int
  r : RF
def PF.cells (p : PF) : Array Value := #[.int .i64 p.wo, .int .i64 p.re, .int .i64 p.se, .int .i64 p.r.W, .int .i64 p.r.La, .int .i64 p.r.Re, .int .i64 p.r.s0, .int .i64 p.r.s1, p.r.d0.v, p.r.d1.v, p.r.d2.v, p.r.d3.v, .bool p.r.wr, .bool p.r.rd, .int .i64 p.r.ma, .int .i64 p.r.se, .int .i64 p.r.pa, .int .i64 p.r.own, .int .i64 p.r.pl, .int .i64 p.r.az, p.r.inn.v, p.r.out.v]
def PF.v (p : PF) : Value := .agg p.cells
theorem PF.ones (p : PF) : p.cells.all (·.oneCell') = true := by simp [PF.cells, Sl.v, Value.oneCell']
def zero22 : Array Value := #[.int .i64 0, .int .i64 0, .int .i64 0, .int .i64 0, .int .i64 0, .int .i64 0, .int .i64 0, .int .i64 0, .slice none 0 0, .slice none 0 0, .slice none 0 0, .slice none 0 0, .bool false, .bool false, .int .i64 0, .int .i64 0, .int .i64 0, .int .i64 0, .int .i64 0, .int .i64 0, .slice none 0 0, .slice none 0 0]
theorem pinfo : (Tryd.prog.info? 48).map (·.size) = some 22 := by kernel_rfl
theorem PF.at3 (p : PF) (j : Nat) : p.cells[3 + j]? = p.r.cells.toList[j]? := by
  rw [Nat.add_comm, ← Array.getElem?_toList]
  rfl
theorem PF.mid {w : World} {x : Nat} {p : PF} (h : Blk w x 48 p.cells) : w.rangeAt x 3 p.r.cells.toList := fun j v hv => by
  rw [h.cell, PF.at3, hv]
theorem PF.there {w : World} {x : Nat} {p : PF} (h : Blk w x 48 p.cells) : w.there x 3 19 := fun j hj => by
  refine ⟨?_, h.fr _⟩
  rw [h.cell, PF.at3, List.getElem?_eq_getElem (show j < p.r.cells.toList.length from hj)]
  rfl
def putl : Array Value → Nat → List Value → Array Value
  | cs, _, [] => cs
  | cs, o, v :: l => putl (cs.setIfInBounds o v) (o + 1) l
theorem blk_setCells {t : TypeId} {x : Nat} : ∀ (l : List Value) (o : Nat) {w : World} {cs : Array Value}, Blk w x t cs → Blk (w.setCells x o l) x t (putl cs o l)
  | [], _, _, _, h => h
  | v :: l, o, _, _, h => blk_setCells l (o + 1) (h.set o v)
theorem heap_setCells {x k : Nat} (hk : k ≠ x) : ∀ (l : List Value) (o : Nat) (w : World), (w.setCells x o l).heap[k]? = w.heap[k]?
  | [], _, _ => rfl
  | v :: l, o, w => (heap_setCells hk l (o + 1) (w.setCell ⟨x, o, none⟩ v)).trans (Below.heap_setCell _ _ _ _ hk)
theorem below_setCells {B x : Nat} {a : World} (hx : B ≤ x) : ∀ (l : List Value) (o : Nat) {w : World}, Below B a w → Below B a (w.setCells x o l)
  | [], _, _, h => h
  | v :: l, o, _, h => below_setCells hx l (o + 1) (h.setCell (p := ⟨x, o, none⟩) hx v)
theorem size_setCells {x : Nat} : ∀ (l : List Value) (o : Nat) (w : World), (w.setCells x o l).heap.size = w.heap.size
  | [], _, _ => rfl
  | v :: l, o, w => (size_setCells l (o + 1) (w.setCell ⟨x, o, none⟩ v)).trans (by simp [World.setCell])
theorem putl_r (p : PF) (r' : RF) : putl p.cells 3 r'.cells.toList = ({ p with r := r' } : PF).cells := by
  simp [putl, PF.cells, RF.cells]
theorem PF.put {w : World} {x : Nat} {p : PF} (h : Blk w x 48 p.cells) (r' : RF) : Blk (w.setCells x 3 r'.cells.toList) x 48 ({ p with r := r' } : PF).cells := by
  have := blk_setCells r'.cells.toList 3 h
  rw [putl_r] at this
  exact this
/-- The reference's port is the port p. -/
structure PRefIn (w : World) (X : Nat → Prop) (f : PF) (p : SP) : Prop where
  wo : f.wo = p.n
  re : f.re = p.f
  se : f.se = p.q
  r : RefIn w X f.r p.s
theorem PRefIn.map {w w' : World} {X Y : Nat → Prop} {f : PF} {p : SP} (h : PRefIn w X f p) (g : ∀ v l, IntsX w X v l → IntsX w' Y v l) : PRefIn w' Y f p := ⟨h.wo, h.re, h.se, h.r.map g⟩
/-- Where x, y and what was not there when the call came back are written, what is reached stays. -/
theorem off_keep {w wc w2 wf : World} {X : Nat → Prop} {x y : Nat} (hX : ∀ k, X k → k < w.heap.size) (hs : wc.heap.size ≤ w2.heap.size) (hw : w.heap.size ≤ wc.heap.size) (gx : w.heap.size ≤ x) (gy : w.heap.size ≤ y) (lx : x < wc.heap.size) (ly : y < wc.heap.size)
    (hf : ∀ k, k < w2.heap.size → k ≠ x → k ≠ y → wf.heap[k]? = w2.heap[k]?) (hz : w2.heap.size ≤ wf.heap.size) {v : Value} {l : List Int} (h : IntsX w2 (newX X wc w2) v l) : IntsX wf (newX X w wf) v l := by
  refine (h.keep fun g hg => ?_).mono fun g hg => hg.imp id fun e => ⟨by have := e.1; omega, by have := e.2; omega⟩
  have h1 : g < w2.heap.size ∧ g ≠ x ∧ g ≠ y := by
    rcases hg with e | e
    · have := hX g e; omega
    · have := e.1; have := e.2; omega
  exact hf g h1.1 h1.2.1 h1.2.2
/-- The register's answer goes into a fresh variable, and from there into the port's. -/
def goIn (w2 : World) (x : Nat) (r' : RF) : World := ((w2.alloc (.cells zero19 46)).setRow w2.heap.size r'.cells).setCells x 3 r'.cells.toList
structure Tail (w wc w2 : World) (x y : Nat) (p : PF) (r' : RF) : Prop where
  z1 : Blk ((w2.alloc (.cells zero19 46)).setRow w2.heap.size r'.cells) w2.heap.size 46 r'.cells
  x1 : Blk ((w2.alloc (.cells zero19 46)).setRow w2.heap.size r'.cells) x 48 p.cells
  bx : Boxed 48 w (goIn w2 x r') x y ({ p with r := r' } : PF).cells
  hk : ∀ k, k < w2.heap.size → k ≠ x → (goIn w2 x r').heap[k]? = w2.heap[k]?
  sz : (goIn w2 x r').heap.size = w2.heap.size + 1
theorem tail_of {w wc w2 : World} {x y : Nat} {p : PF} (r' : RF) (hB : Boxed 48 w wc x y p.cells) (hb : Below wc.heap.size wc w2) : Tail w wc w2 x y p r' := by
  have h2 := hB.go hb
  have hx := h2.hx
  obtain ⟨zs, hz, hy⟩ := h2.hy
  have hxl := hx.lt
  have hyl := hy.lt
  have x1 : Blk ((w2.alloc (.cells zero19 46)).setRow w2.heap.size r'.cells) x 48 p.cells := (setRow_other _ _ _ _ (by omega)).trans ((Below.heap_alloc _ _ _ hxl).trans hx)
  have hk : ∀ k, k < w2.heap.size → k ≠ x → (goIn w2 x r').heap[k]? = w2.heap[k]? := fun k hk hn => by
    unfold goIn
    rw [heap_setCells hn, setRow_other _ _ _ _ (by omega), Below.heap_alloc _ _ _ hk]
  exact ⟨setRow_heap _ _ zero19 _ _ (0, 0) (heap_alloc_new w2 _), x1, ⟨PF.put x1 r', ⟨zs, hz, hy.of (hk y hyl (Ne.symm h2.ne))⟩, below_setCells h2.gx _ _ (below_setRow (h2.bel.alloc h2.bel.size _) h2.bel.size _), h2.gx, h2.gy, h2.ne⟩, hk, by unfold goIn; rw [size_setCells]; simp⟩
end Go.Proofs.YtmcelldklmjlkaaDoor
