/- CellPlays: what a round does to the memory and the boxed reference. -/
import Derived.Test.YtkamcjejongmbaaDoorCellPC
namespace Go.Proofs.YtkamcjejongmbaaDoor
open Go.RowKit

theorem ints_mem {S : Nat → Prop} {B : Nat} {w w' : World} {A : Option Addr} {n c : Nat} {l : List Int} (h : IntsIn w (.slice A n c) l) (hr : RowT B w A l.length) (hO : Only S w w') (hS : ∀ k, S k → k < B) : IntsIn w' (.slice A n c) l ∧ RowT B w' A l.length := by
  obtain ⟨A', c', e, hl, k⟩ := h
  injection e with e1 e2 e3
  subst e1 e2 e3
  refine ⟨⟨A, c, rfl, hl, fun hp => ?_⟩, fun hp => ?_⟩
  · obtain ⟨g, o, rfl, d⟩ := k hp
    obtain ⟨g', o', cs', e, hB, hk⟩ := hr hp
    injection e with e
    injection e with e1 e2 _
    subst e1 e2
    exact ⟨g, o, rfl, fun i hi => cell_onl (d i hi) hO (fun e => by have := hS g e; omega)⟩
  · obtain ⟨g', o', cs', e, hB, hk⟩ := hr hp
    exact ⟨g', o', cs', e, blk_onl hB hO (fun e => by have := hS g' e; omega), hk⟩
/-- What keeps the box off the memory. -/
structure Off (W : World) (B ma la rb : Nat) : Prop where
  m : ∀ k, memS ma la k → k < B
  n : ¬ memS ma la rb
  h : W.heap.size ≤ rb
  hB : W.heap.size ≤ B
/-- The reference's answer, stored into its box. -/
def boxW (w : World) (rb : Nat) (A : Option Addr) (c : Nat) (s : CS) : World := ((w.setCell ⟨rb, 0, none⟩ (.slice A s.l.length c)).setCell ⟨rb, 1, none⟩ (.int .i64 s.c))
theorem PC.put {W w : World} {B ma la rb : Nat} {s0 s1 : CS} {A1 : Option Addr} {c1 : Nat} {v0 v1 : Value} (ho : Off W B ma la rb) (hC : CCtx W w ma la s0) (hx : Blk w rb 45 #[v0, v1]) (hI : IntsIn w (.slice A1 s1.l.length c1) s1.l) (hT : RowT B w A1 s1.l.length) (x : Obj) :
    CCtx W ((boxW w rb A1 c1 s1).alloc x) ma la s0 ∧ Blk ((boxW w rb A1 c1 s1).alloc x) rb 45 #[.slice A1 s1.l.length c1, .int .i64 s1.c] ∧ IntsIn ((boxW w rb A1 c1 s1).alloc x) (.slice A1 s1.l.length c1) s1.l ∧ RowT B ((boxW w rb A1 c1 s1).alloc x) A1 s1.l.length := by
  have hO : Only (fun k => k = rb) w (boxW w rb A1 c1 s1) :=
    onl_set (S := fun k => k = rb) (onl_set (S := fun k => k = rb) (onl_refl _ _) (p := ⟨rb, 0, none⟩) (.inl rfl) _) (p := ⟨rb, 1, none⟩) (.inl rfl) _
  have hIT := ints_far hI hT hx (by decide) hO
  refine ⟨(hC.other hO (fun e => ho.n (.inl e.symm)) (fun e => ho.n (.inr e.symm)) (fun k e => by rw [e]; exact ho.h)).below (below_alloc (Nat.le_refl _) _), ((hx.set 0 _).set 1 _).alloc _, hIT.1.below (below_alloc (Nat.le_refl _) _), hIT.2.below (below_alloc (Nat.le_refl _) _)⟩
/-- Behind the memory's own call. -/
theorem PC.mem {W w w' : World} {B ma la rb : Nat} {s1 : CS} {A1 : Option Addr} {c1 : Nat} (ho : Off W B ma la rb) (hx : Blk w rb 45 #[.slice A1 s1.l.length c1, .int .i64 s1.c]) (hI : IntsIn w (.slice A1 s1.l.length c1) s1.l) (hT : RowT B w A1 s1.l.length)
    (hC : CCtx W w' ma la s1) (hO : Only (memS ma la) w w') : PC W w' B ma la rb s1 A1 c1 :=
  ⟨hC, blk_onl hx hO ho.n, (ints_mem hI hT hO ho.m).1, (ints_mem hI hT hO ho.m).2⟩
end Go.Proofs.YtkamcjejongmbaaDoor
