/- Messages through a ring: as the laws see it. -/
import Derived.Test.YtelfclcljdjohaaDoorRingN
namespace Go.Proofs.YtelfclcljdjohaaDoor
open Go.RowKit

/-- Every block of X is kept. -/
def Kept (X : Nat → Prop) (w w' : World) : Prop := ∀ k, X k → w'.heap[k]? = w.heap[k]?
structure Ctx (W w : World) (b mb lb : Nat) (X : Nat → Prop) (s : RS) : Prop where
  at_ : ∃ vi vo c, RAt w W.heap.size b mb lb X s vi vo c
  ok : s.ok
  bel : Below W.heap.size W w
  gb : W.heap.size ≤ b
  gm : W.heap.size ≤ mb
  gl : W.heap.size ≤ lb
  xr : ∀ k, X k → ¬ regS b mb lb k
section
variable {W w w' : World} {b mb lb : Nat} {X : Nat → Prop} {s s' : RS}
theorem Ctx.reg (h : Ctx W w b mb lb X s) : ∀ k, regS b mb lb k → W.heap.size ≤ k := by
  rintro k (rfl | rfl | rfl)
  · exact h.gb
  · exact h.gm
  · exact h.gl
theorem Ctx.step (h : Ctx W w b mb lb X s) {vi vo : Value} {c : Int} (hv : RAt w W.heap.size b mb lb X s vi vo c) (hT : ∃ vi vo c, RAt w' W.heap.size b mb lb X s' vi vo c) (hf : s'.ok) (hO : Only (turnS b mb lb vo) w w') : Ctx W w' b mb lb X s' ∧ Kept X w w' := by
  refine ⟨⟨hT, hf, below_onl h.bel hO h.bel.size (fun k e => e.elim (h.reg k) (fun e => (hv.ol.lt k e).1)), h.gb, h.gm, h.gl, h.xr⟩, fun k hk => hO.block k (hv.lx k hk) (fun e => e.elim (h.xr k hk) (fun e => hv.xo k e hk))⟩
theorem Ctx.below (h : Ctx W w b mb lb X s) (hb : Below w.heap.size w w') : Ctx W w' b mb lb X s := by
  obtain ⟨vi, vo, c, hT⟩ := h.at_
  exact ⟨⟨vi, vo, c, hT.below hb⟩, h.ok, h.bel.trans (hb.mono h.bel.size), h.gb, h.gm, h.gl, h.xr⟩
/-- A store into a block of the law's own. -/
theorem Ctx.set (h : Ctx W w b mb lb X s) (x i : Nat) (u : Value) (hx : X x) (hW : W.heap.size ≤ x) : Ctx W (w.setCell ⟨x, i, none⟩ u) b mb lb X s := by
  obtain ⟨vi, vo, c, hT⟩ := h.at_
  have hO : Only (fun k => k = x) w (w.setCell ⟨x, i, none⟩ u) := onl_set (S := fun k => k = x) (onl_refl _ w) (p := ⟨x, i, none⟩) (.inl rfl) u
  refine ⟨⟨vi, vo, c, hT.onl hO (fun k e => by rw [e]; exact h.xr x hx) (fun g hg e => hT.xi g hg (by rw [e]; exact hx)) (fun g hg e => hT.xo g hg (by rw [e]; exact hx))⟩, h.ok, below_onl h.bel hO h.bel.size (fun k e => by cases e; exact hW), h.gb, h.gm, h.gl, h.xr⟩
/-- New blocks may be the law's own. -/
theorem Ctx.more (h : Ctx W w b mb lb X s) (x : Nat) (w' : World) (hb : Below w.heap.size w w') (hx : w.heap.size ≤ x) (hx' : x < w'.heap.size) : Ctx W w' b mb lb (fun k => X k ∨ k = x) s := by
  obtain ⟨vi, vo, c, hT⟩ := h.at_
  have h2 := hT.below hb
  have hbl := hT.r.lt
  have hml := hT.m.m.lt
  have hll := hT.m.d.lt
  refine ⟨⟨vi, vo, c, ⟨h2.r, h2.m, h2.il, h2.ol, h2.si, h2.so, fun g hg e => ?_, fun g hg e => ?_, fun k e => ?_⟩⟩, h.ok, h.bel.trans (hb.mono h.bel.size), h.gb, h.gm, h.gl, fun k e => ?_⟩
  · rcases e with e | e
    · exact h2.xi g hg e
    · have := (hT.il.lt g hg).2; omega
  · rcases e with e | e
    · exact h2.xo g hg e
    · have := (hT.ol.lt g hg).2; omega
  · rcases e with e | e
    · exact h2.lx k e
    · omega
  · rcases e with e | e
    · exact h.xr k e
    · unfold regS; omega
theorem ctx_busy (h : Ctx W w b mb lb X s) (x : Bool) :
    Calls Tryd.prog 15 #[.pointer (some ⟨b, 0, none⟩), .bool x] w fun e w' => e = .returned (.bool (!decide ((if x then s.ia else s.oa) = 0))) ∧ w = w' := by
  obtain ⟨vi, vo, c, hT⟩ := h.at_
  cases x
  · exact busy_r hT
  · exact busy_w hT
theorem ctx_words (h : Ctx W w b mb lb X s) :
    Calls Tryd.prog 11 #[.pointer (some ⟨b, 0, none⟩)] w fun e w' => e = .returned (.int .i64 s.W) ∧ w = w' := by
  obtain ⟨vi, vo, c, hT⟩ := h.at_
  exact words_any hT
theorem ctx_places (h : Ctx W w b mb lb X s) :
    Calls Tryd.prog 12 #[.pointer (some ⟨b, 0, none⟩)] w fun e w' => e = .returned (.int .i64 s.P) ∧ w = w' := by
  obtain ⟨vi, vo, c, hT⟩ := h.at_
  exact places_any hT
theorem ctx_count (h : Ctx W w b mb lb X s) :
    Calls Tryd.prog 14 #[.pointer (some ⟨b, 0, none⟩)] w fun e w' => e = .returned (.int .i64 (dist s.P s.tl s.hd)) ∧ Below w.heap.size w w' := by
  obtain ⟨vi, vo, c, hT⟩ := h.at_
  exact count_any hT h.ok
end
end Go.Proofs.YtelfclcljdjohaaDoor
