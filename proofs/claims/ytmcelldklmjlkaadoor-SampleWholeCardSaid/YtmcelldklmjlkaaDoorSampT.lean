/- SampleWhole: the law's own blocks; its writes. -/
import Derived.Test.YtmcelldklmjlkaaDoorSampleForward
namespace Go.Proofs.YtmcelldklmjlkaaDoor
open Go.RowKit

section
variable {W w w' : World} {pb kb b mb lb : Nat} {X : Nat → Prop} {p : SP}
/-- The law writes to its own blocks; all new blocks may be its own. -/
theorem Ctx.growO {S : Nat → Prop} {s : FS} (h : Ctx W w b mb lb X s) (hO : Only S w w') (h1 : ∀ k, S k → X k) (h2 : ∀ k, S k → W.heap.size ≤ k) : Ctx W w' b mb lb (newX X w w') s := by
  obtain ⟨Z, vl, vi, vr, vo, c, hF, hL, hR⟩ := h.at_
  have hk : ∀ g, Z g → w'.heap[g]? = w.heap[g]? := fun g hg => hO.block g (hF.z g hg).1 fun e => (hF.z g hg).2.2 (h1 g e)
  have h3 := hF.onl hO (fun k e => (hF.x k (h1 k e)).2) (fun k e f => (hF.z k f).2.2 (h1 k e)) (fun g hg e => (hF.so g hg).2.2 (h1 g e))
  have hbl := hF.r.lt
  have hml := hF.m.m.lt
  have hll := hF.m.d.lt
  refine ⟨⟨Z, vl, vi, vr, vo, c, ⟨h3.r, h3.m, h3.il, h3.ol, fun g hg => ⟨(h3.so g hg).1, (h3.so g hg).2.1, fun e => e.elim (h3.so g hg).2.2 fun e => by have := (hF.ol.lt g hg).2; omega⟩, fun k e => ⟨(h3.z k e).1, (h3.z k e).2.1, fun f => f.elim (h3.z k e).2.2 fun f => by have := (hF.z k e).1; omega⟩, fun k e => ?_⟩, hL.keep hk, hR.keep hk⟩, h.ok, below_onl h.bel hO h.bel.size h2, h.gb, h.gm, h.gl⟩
  rcases e with e | ⟨e, e'⟩
  · exact h3.x k e
  · refine ⟨e', ?_⟩
    rintro (rfl | rfl | rfl) <;> omega
theorem PCtx.growO {S : Nat → Prop} (h : PCtx W w pb kb b mb lb X p) (hO : Only S w w') (h1 : ∀ k, S k → X k) (h2 : ∀ k, S k → W.heap.size ≤ k) (h3 : ¬ S pb) : PCtx W w' pb kb b mb lb (newX X w w') p :=
  ⟨h.c.growO hO h1 h2, blk_onl h.k hO h3, h.f, .inl h.xp, h.gp, h.ok⟩
end
/-- What SampleWhole writes: its words, so far. -/
def wfill (n k : Nat) (x : Int) : List Int := (List.range n).map fun j => if j < k then 1000 * (j : Int) + x else 0
theorem wfill_len (n k : Nat) (x : Int) : (wfill n k x).length = n := by simp [wfill]
theorem wfill_zero (n : Nat) (x : Int) : wfill n 0 x = List.replicate n 0 := by
  unfold wfill
  rw [List.eq_replicate_iff]
  simp
theorem wfill_set (n k : Nat) (x : Int) (h : k < n) : (wfill n k x).set k (1000 * (k : Int) + x) = wfill n (k + 1) x := by
  apply List.ext_getElem?
  intro i
  unfold wfill
  by_cases e : i = k
  · subst e
    rw [List.getElem?_set_self (by simpa using h)]
    simp [h]
  · rw [List.getElem?_set_ne (Ne.symm e)]
    by_cases hi : i < n
    · simp only [List.getElem?_map, List.getElem?_range hi, Option.map_some]
      by_cases h2 : i < k
      · rw [if_pos h2, if_pos (by omega)]
      · rw [if_neg h2, if_neg (by omega)]
    · simp [hi]
def DW (_ : Int) (x k : Nat) : Int := 1000 * (k : Int) + x
theorem wfill_all (n x : Nat) (t : Int) : wfill n n (x : Int) = (List.range n).map (DW t x) := by
  unfold wfill
  apply List.map_congr_left
  intro j hj
  rw [if_pos (by simpa using hj)]
  rfl
theorem dw_ok (n x : Nat) (t : Int) (hn : n ≤ 4) (hx : x ≤ 1000) : allOk ((List.range n).map (DW t x)) := by
  intro v hv
  obtain ⟨j, hj, rfl⟩ := List.mem_map.1 hv
  have : j < n := by simpa using hj
  unfold DW okWord
  omega
theorem wfill_get (n k : Nat) (x : Int) (h : k < n) : (wfill n k x)[k]? = some 0 := by
  unfold wfill
  simp [h]
end Go.Proofs.YtmcelldklmjlkaaDoor
