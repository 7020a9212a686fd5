/- A struct of many cells, as a value: boxed, stored and given back whole. -/
import Derived.Test.YtmcelldklmjlkaaDoorKit
import Derived.Laws.Tables
import Derived.Laws.Rows
import Derived.Laws.ResultCell
import Derived.Laws.CopyOwn
namespace Go.Proofs.YtmcelldklmjlkaaDoor
open Go.RowKit

section
variable {P : Program} {fn : Func} {p u u2 u3 : Tmp} {ty : TypeId} {w : World} {g : Nat} {t : TypeId} {cs : Array Value} {d : TypeDesc}
theorem res_c1 (h : fn.results = #[.cell p ty]) (tmps : Array Value) (hp : tmps.getD p undef = .pointer (some ⟨g, 0, none⟩)) (hg : Blk w g t cs) (hu : P.underlying ty = some d) (hd : (match d with | .struct _ | .array _ _ => true | _ => false) = true) (hi : (P.info? ty).map (·.size) = some cs.size) :
    (results fn tmps).run P w = .ok (.agg cs) w := by
  have hp' : tmps[p]?.getD undef = .pointer (some ⟨g, 0, none⟩) := by simpa using hp
  simp [results, h, hp', asAddr, run_loadVar_row w g t ty cs (0, 0) d hg hu hd hi]
theorem res_c2 (h : fn.results = #[.cell p ty, .tmp u]) (tmps : Array Value) (hp : tmps.getD p undef = .pointer (some ⟨g, 0, none⟩)) (hg : Blk w g t cs) (hu : P.underlying ty = some d) (hd : (match d with | .struct _ | .array _ _ => true | _ => false) = true) (hi : (P.info? ty).map (·.size) = some cs.size) :
    (results fn tmps).run P w = .ok (.tuple #[.agg cs, tmps.getD u undef]) w := by
  have hp' : tmps[p]?.getD undef = .pointer (some ⟨g, 0, none⟩) := by simpa using hp
  simp [results, h, hp', asAddr, Result.andThen, run_loadVar_row w g t ty cs (0, 0) d hg hu hd hi]
theorem res_c3 (h : fn.results = #[.cell p ty, .tmp u, .tmp u2]) (tmps : Array Value) (hp : tmps.getD p undef = .pointer (some ⟨g, 0, none⟩)) (hg : Blk w g t cs) (hu : P.underlying ty = some d) (hd : (match d with | .struct _ | .array _ _ => true | _ => false) = true) (hi : (P.info? ty).map (·.size) = some cs.size) :
    (results fn tmps).run P w = .ok (.tuple #[.agg cs, tmps.getD u undef, tmps.getD u2 undef]) w := by
  have hp' : tmps[p]?.getD undef = .pointer (some ⟨g, 0, none⟩) := by simpa using hp
  simp [results, h, hp', asAddr, Result.andThen, run_loadVar_row w g t ty cs (0, 0) d hg hu hd hi]
theorem res_c4 (h : fn.results = #[.cell p ty, .tmp u, .tmp u2, .tmp u3]) (tmps : Array Value) (hp : tmps.getD p undef = .pointer (some ⟨g, 0, none⟩)) (hg : Blk w g t cs) (hu : P.underlying ty = some d) (hd : (match d with | .struct _ | .array _ _ => true | _ => false) = true) (hi : (P.info? ty).map (·.size) = some cs.size) :
    (results fn tmps).run P w = .ok (.tuple #[.agg cs, tmps.getD u undef, tmps.getD u2 undef, tmps.getD u3 undef]) w := by
  have hp' : tmps[p]?.getD undef = .pointer (some ⟨g, 0, none⟩) := by simpa using hp
  simp [results, h, hp', asAddr, Result.andThen, run_loadVar_row w g t ty cs (0, 0) d hg hu hd hi]
end
theorem yields_row {P : Program} {o : Oper} {a : Act} {w : World} (ty : TypeId) (x : Operand) (ho : o.op = .load ty x)
    (g : Nat) (hx : a.eval x = .pointer (some ⟨g, 0, none⟩)) {t : TypeId} {cs : Array Value} {d : TypeDesc} (hg : Blk w g t cs)
    (hu : P.underlying ty = some d) (hd : (match d with | .struct _ | .array _ _ => true | _ => false) = true) (hi : (P.info? ty).map (·.size) = some cs.size) :
    (execOp a.eval o).run P w = .ok (.value (.agg cs)) w := by
  unfold execOp
  simp only [ho, hx, Instr.loadAt, Instr.sureAddr, Sem.run_bind, Sem.run_pure, Result.andThen_ok, run_loadVar_row w g t ty cs (0, 0) d hg hu hd hi]
/-- The box of a parameter at x, and of a result at y: laid by the call. -/
structure Boxed (T : TypeId) (w wx : World) (x y : Nat) (cs : Array Value) : Prop where
  hx : Blk wx x T cs
  hy : ∃ zs : Array Value, zs.size = cs.size ∧ Blk wx y T zs
  bel : Below w.heap.size w wx
  gx : w.heap.size ≤ x
  gy : w.heap.size ≤ y
  ne : x ≠ y
section
variable {T : TypeId} {w wx w' : World} {x y : Nat} {cs : Array Value}
theorem boxed_new (w : World) (T : TypeId) (cs zs : Array Value) (hz : zs.size = cs.size) : Boxed T w ((w.alloc (.cells cs T)).alloc (.cells zs T)) w.heap.size (w.heap.size + 1) cs :=
  ⟨heap_alloc2_old w _ _, ⟨zs, hz, heap_alloc2_new w _ _⟩, (below_alloc (Nat.le_refl _) _).trans (below_alloc (by simp) _), Nat.le_refl _, by omega, by omega⟩
theorem Boxed.set (h : Boxed T w wx x y cs) (i : Nat) (u : Value) : Boxed T w (wx.setCell ⟨x, i, none⟩ u) x y (cs.setIfInBounds i u) := by
  obtain ⟨zs, hz, hy⟩ := h.hy
  exact ⟨h.hx.set i u, ⟨zs, by simpa using hz, hy.far (p := ⟨x, i, none⟩) (Ne.symm h.ne) u⟩, h.bel.setCell (p := ⟨x, i, none⟩) h.gx u, h.gx, h.gy, h.ne⟩
theorem Boxed.go (h : Boxed T w wx x y cs) (hb : Below wx.heap.size wx w') : Boxed T w w' x y cs := by
  obtain ⟨zs, hz, hy⟩ := h.hy
  exact ⟨h.hx.below hb h.hx.lt, ⟨zs, hz, hy.below hb hy.lt⟩, h.bel.trans (hb.mono h.bel.size), h.gx, h.gy, h.ne⟩
theorem Boxed.far (h : Boxed T w wx x y cs) {g : Nat} (i : Nat) (u : Value) (hx : g ≠ x) (hy : g ≠ y) (hg : w.heap.size ≤ g) : Boxed T w (wx.setCell ⟨g, i, none⟩ u) x y cs := by
  obtain ⟨zs, hz, hb⟩ := h.hy
  exact ⟨h.hx.far (p := ⟨g, i, none⟩) (Ne.symm hx) u, ⟨zs, hz, hb.far (p := ⟨g, i, none⟩) (Ne.symm hy) u⟩, h.bel.setCell (p := ⟨g, i, none⟩) hg u, h.gx, h.gy, h.ne⟩
theorem Boxed.row (h : Boxed T w wx x y cs) : Blk (wx.setRow y cs) y T cs := by
  obtain ⟨zs, hz, hy⟩ := h.hy
  exact setRow_heap wx y zs cs T (0, 0) hy
theorem Boxed.end_ (h : Boxed T w wx x y cs) : Below w.heap.size w (wx.setRow y cs) := below_setRow h.bel h.gy cs
end
end Go.Proofs.YtmcelldklmjlkaaDoor
