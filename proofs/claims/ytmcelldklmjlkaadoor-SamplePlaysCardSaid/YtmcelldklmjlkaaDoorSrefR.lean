/- The port and the reference's port: both made. -/
import Derived.Test.YtmcelldklmjlkaaDoorSrefQ
namespace Go.Proofs.YtmcelldklmjlkaaDoor
open Go.RowKit

/-- The reference's first port goes into the law's variable, made ahead of the port's or behind it. -/
theorem pa_new2 {W V w2 wb w3 w8 : World} {pb kb b mb lb z : Nat} {X : Nat → Prop} {f : PF} {p : SP} (hV : Below W.heap.size W V) (hC : PCtx V w2 pb kb b mb lb X p) (hb2 : Below w2.heap.size w2 wb) (hR : PRefIn w3 (From wb.heap.size w3) f p) (hb : Below wb.heap.size wb w3) (hb8 : Below w3.heap.size w3 w8)
    (hz : Blk w8 z 48 zero22) (hg : W.heap.size ≤ z) (hn : X z ∧ z < V.heap.size ∨ w2.heap.size ≤ z ∧ V.heap.size ≤ z) (hk : z ≠ kb) (hzp : z ≠ pb) (hz3 : z < wb.heap.size ∨ w3.heap.size ≤ z) :
    PA W (w8.setRow z f.cells) pb kb b mb lb z (From wb.heap.size w3) f p p := by
  have hs := hb.size
  have hs2 := hb2.size
  have hs8 := hb8.size
  have hpl := hC.c.lt pb hC.xp
  have hzl := hz.lt
  have hb9 : Below w2.heap.size w2 w8 := hb2.trans ((hb.trans (hb8.mono hs)).mono hs2)
  have h1 : PCtx V w8 pb kb b mb lb (lawY pb z (From wb.heap.size w3)) p := (hC.grow hb9).less (fun k e => by
    rcases e with rfl | rfl | e
    · exact .inl hC.xp
    · exact hn.imp (fun e => e.1) fun e => ⟨e.1, hzl⟩
    · exact .inr ⟨by have := e.1; omega, by have := e.2; omega⟩) (.inl rfl)
  have hO : Only (fun k => k = z) w8 (w8.setRow z f.cells) := ⟨rfl, rfl, rfl, by simp, fun k _ hn => setRow_other _ _ _ _ hn⟩
  refine ⟨?_, hR.map fun _ _ k => (k.below hb8).keep (fun g hg => setRow_other _ _ _ _ (by have := hg.1; have := hg.2; omega)), setRow_heap _ _ zero22 _ 48 (0, 0) hz, fun e => by have := e.1; have := e.2; omega, fun e => by have := e.1; omega, hzp, hk, hg⟩
  rcases hn with ⟨h2, h3⟩ | ⟨h2, h3⟩
  · exact ⟨_, below_setRow hV hg f.cells, h1.rebase hz (.inr (.inl rfl)) h3 hk hzp⟩
  · exact ⟨V, hV, h1.onlX hO (fun k e => .inr (.inl e)) (fun k e => by rw [e]; exact h3) (Ne.symm hzp)⟩
end Go.Proofs.YtmcelldklmjlkaaDoor
