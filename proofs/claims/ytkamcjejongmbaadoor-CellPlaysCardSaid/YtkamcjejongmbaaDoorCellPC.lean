/- CellPlays: the reference's memory, boxed, beside the memory. -/
import Derived.Test.YtkamcjejongmbaaDoorCellW
namespace Go.Proofs.YtkamcjejongmbaaDoor
open Go.RowKit

/-- The memory, and the reference's in the box rb. -/
structure PC (W w : World) (B ma la rb : Nat) (s : CS) (A : Option Addr) (c : Nat) : Prop where
  C : CCtx W w ma la s
  box : Blk w rb 45 #[.slice A s.l.length c, .int .i64 s.c]
  I : IntsIn w (.slice A s.l.length c) s.l
  T : RowT B w A s.l.length
section
variable {W w w' : World} {B ma la rb c : Nat} {s : CS} {A : Option Addr}
theorem PC.below (h : PC W w B ma la rb s A c) (hb : Below w.heap.size w w') : PC W w' B ma la rb s A c :=
  ⟨h.C.below hb, h.box.below hb h.box.lt, h.I.below hb, h.T.below hb⟩
theorem PC.drewN (h : PC W w B ma la rb s A c) (n : Nat) : PC W (w.drewN n) B ma la rb s A c := h.below (below_drewN' w n)
theorem PC.drew (h : PC W w B ma la rb s A c) : PC W w.drew B ma la rb s A c := h.drewN 1
theorem PC.c0 (h : PC W w B ma la rb s A c) : w.cell? ⟨rb, 0, none⟩ = some (.slice A s.l.length c) := (h.box.cell 0).trans rfl
theorem PC.c1 (h : PC W w B ma la rb s A c) : w.cell? ⟨rb, 1, none⟩ = some (.int .i64 s.c) := (h.box.cell 1).trans rfl
end
end Go.Proofs.YtkamcjejongmbaaDoor
