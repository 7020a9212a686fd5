/- The register and the reference's register beside each other: what the law's walk leans on. -/
import Derived.Test.YthpggeiacbdakaaDoorFrefP
import Derived.Test.YthpggeiacbdakaaDoorFrefC
import Derived.Test.YthpggeiacbdakaaDoorFrefI
import Derived.Test.YthpggeiacbdakaaDoorFrefL
import Derived.Test.YthpggeiacbdakaaDoorFrefS
import Derived.Test.YthpggeiacbdakaaDoorFrefN
namespace Go.Proofs.YthpggeiacbdakaaDoor
open Go.RowKit

theorem wr_W (s : FS) (l : List Int) : (s.wr l).1.W = s.W := by
  unfold FS.wr
  repeat (first | rfl | split)
theorem rd_W (s : FS) : s.rd.1.W = s.W := by
  unfold FS.rd
  split <;> rfl
theorem drop_W (s : FS) (b : Bool) : (s.drop b).W = s.W := by cases b <;> rfl
theorem step_W (s : FS) (b : Bool) : (s.step b).1.W = s.W := by
  cases b
  · change s.stepR.1.W = _
    unfold FS.stepR
    split
    · rfl
    · change s.accR.W = _
      unfold FS.accR
      repeat (first | rfl | split)
  · change s.stepW.1.W = _
    unfold FS.stepW
    split
    · rfl
    · change s.accW.W = _
      unfold FS.accW
      repeat (first | rfl | split)
theorem step_len3 {s : FS} (h : s.ok) (b : Bool) : (s.step b).2.1.length ≤ 1073741824 := by
  have h1 := h.ol'
  have h2 := h.w6
  cases b
  · change s.stepR.2.1.length ≤ _
    unfold FS.stepR
    split
    · simp
    · dsimp only
      split
      · unfold FS.accR
        repeat (first | (simp only [List.length_append, List.length_singleton]; omega) | (simp only []; omega) | split)
      · simp
  · change s.stepW.2.1.length ≤ _
    unfold FS.stepW
    split <;> simp
theorem pat_new {W w w2 : World} {b mb lb : Nat} {r : RF} {n : Int} (hW : Below W.heap.size W w) (hC : Ctx W w b mb lb (fun _ => False) (FS.new (wordsOf n))) (hb : Below w.heap.size w w2) (hR : RefIn w2 (From w.heap.size w2) r (FS.new (wordsOf n))) :
    PAt W ((w2.alloc (.cells zero19 50)).setRow w2.heap.size r.cells) b mb lb w2.heap.size (From w.heap.size w2) r (FS.new (wordsOf n)) (FS.new (wordsOf n)) := by
  have hs := hb.size
  have hb2 := hb.trans (below_alloc hb.size (.cells zero19 50))
  have h1 : Ctx W (w2.alloc (.cells zero19 50)) b mb lb (lawX w2.heap.size (From w.heap.size w2)) (FS.new (wordsOf n)) := (hC.grow hb2).monoX fun k e => by
    rcases e with rfl | e
    · exact .inr ⟨hs, by simp⟩
    · exact .inr ⟨e.1, by have := e.2; simp; omega⟩
  have hx : W.heap.size ≤ w2.heap.size := Nat.le_trans hW.size hs
  have hO : Only (fun k => k = w2.heap.size) (w2.alloc (.cells zero19 50)) ((w2.alloc (.cells zero19 50)).setRow w2.heap.size r.cells) :=
    ⟨rfl, rfl, rfl, by simp, fun k _ hn => setRow_other _ _ _ _ hn⟩
  refine ⟨h1.onlX hO (fun k e => .inl e) (fun k e => by rw [e]; exact hx), hR.map fun _ _ k => k.keep (fun g hg => ?_), setRow_heap _ _ zero19 _ 50 (0, 0) (heap_alloc_new w2 _), fun e => by have := e.2; omega, hx⟩
  have h2 : g < w2.heap.size := hg.2
  rw [setRow_other _ _ _ _ (by omega), Below.heap_alloc _ _ _ h2]
end Go.Proofs.YthpggeiacbdakaaDoor
