/- The register and the reference's register beside each other: what the law's walk leans on. -/
import Derived.Test.YtdhbiogcaekbbaaDoorTrefP
import Derived.Test.YtdhbiogcaekbbaaDoorTrefB
import Derived.Test.YtdhbiogcaekbbaaDoorTrefG
import Derived.Test.YtdhbiogcaekbbaaDoorTrefN
import Derived.Test.YtdhbiogcaekbbaaDoorTripleOdd
namespace Go.Proofs.YtdhbiogcaekbbaaDoor
open Go.RowKit

theorem wrR_x (s : TS) (l : List Int) : (s.wrR l).1.x = s.x ∧ (s.wrR l).1.W = s.W := by
  unfold TS.wrR
  repeat (first | exact ⟨rfl, rfl⟩ | split)
theorem step_len3 {s : TS} (h : s.fine) (b : Bool) : (s.step b).2.1.length ≤ 1073741824 := by
  have h1 := h.ok.ol'
  have h2 := h.ok.w6
  cases b
  · have h3 : s.stepR.2.1 = [] ∨ s.stepR.2.1 = s.ol ++ [s.next] := by
      unfold TS.stepR
      repeat (first | exact .inl rfl | exact .inr rfl | split)
    change s.stepR.2.1.length ≤ _
    rcases h3 with h3 | h3
    · simp [h3]
    · rw [h3]; simp; omega
  · have h3 : s.stepW.2.1 = [] := by
      unfold TS.stepW
      repeat (first | rfl | split)
    change s.stepW.2.1.length ≤ _
    simp [h3]
section
variable {W w : World} {b mb lb : Nat} {s : TS}
theorem ctx_wrR (h : Ctx W w b mb lb s) {v : Value} {l : List Int} (hv : IntsIn w v l) (hl : l.length ≤ 65536) :
    Calls Tryd.prog 16 #[.pointer (some ⟨b, 0, none⟩), v] w fun e w' => e = .returned (.int .i64 (s.wrR l).2) ∧ Ctx W w' b mb lb (s.wrR l).1 ∧ Only (regS b mb lb) w w' := by
  unfold TS.wrR
  obtain ⟨vi, vo, c, hT⟩ := h.at_
  by_cases hg : l.length = s.W ∧ ∀ v ∈ l, okWord v
  · rw [if_pos hg]
    by_cases hia : s.ia = 0
    · rw [if_pos hia]
      exact ctx_write h hv hg.1 hg.2 hia
    · rw [if_neg hia]
      exact (write_busy hT h.fine.ok (h.fine.ok.ia.resolve_left hia) hv hg.1 hg.2).mono fun e w' ⟨he, hw⟩ => ⟨he, hw ▸ h, hw ▸ onl_refl _ _⟩
  · rw [if_neg hg]
    exact (write_bad hT h.fine.ok hv hl hg).mono fun e w' ⟨he, hw⟩ => ⟨he, hw ▸ h, hw ▸ onl_refl _ _⟩
end
theorem refin_x {w : World} {X : Nat → Prop} {r : RF} {s : TS} (h : RefIn w X r s) (x : Nat) : RefIn w X r { s with x := x } :=
  ⟨h.W, h.Mi, h.d, h.Ba, h.Fr, h.wr, h.rd, h.ma, h.il, h.ak, h.fs, h.on, h.ol⟩
theorem pat_new {W w w2 : World} {b mb lb : Nat} {r : RF} {n : Int} (hW : Below W.heap.size W w) (l1 : b < w.heap.size) (l2 : mb < w.heap.size) (l3 : lb < w.heap.size)
    (hC : ∀ (x : Nat) (w2 : World), Below w.heap.size w w2 → x < w2.heap.size → Ctx W w2 b mb lb { TS.new (wordsOf n) with x := x })
    (hb : Below w.heap.size w w2) (hR : RefIn w2 (From w.heap.size w2) r (TS.new (wordsOf n))) :
    PAt W ((w2.alloc (.cells zero14 50)).setRow w2.heap.size r.cells) b mb lb w2.heap.size (From w.heap.size w2) r { TS.new (wordsOf n) with x := w2.heap.size } { TS.new (wordsOf n) with x := w2.heap.size } := by
  have hs := hb.size
  have hb2 := hb.trans (below_alloc hb.size (.cells zero14 50))
  have h1 := hC w2.heap.size _ hb2 (by simp)
  have hn : ¬ regS b mb lb w2.heap.size := by unfold regS; omega
  have hx : W.heap.size ≤ w2.heap.size := Nat.le_trans hW.size hs
  have hO : Only (fun k => k = w2.heap.size) (w2.alloc (.cells zero14 50)) ((w2.alloc (.cells zero14 50)).setRow w2.heap.size r.cells) :=
    ⟨rfl, rfl, rfl, by simp, fun k _ hn => setRow_other _ _ _ _ hn⟩
  refine ⟨h1.onlX hO hn hx, (refin_x hR _).map fun _ _ k => k.keep (fun g hg => ?_), setRow_heap _ _ zero14 _ 50 (0, 0) (heap_alloc_new w2 _), fun k e => ⟨by have := e.2; simp; omega, ?_, by have := e.2; omega⟩, hn, hx, rfl⟩
  · have h2 : g < w2.heap.size := hg.2
    rw [setRow_other _ _ _ _ (by omega), Below.heap_alloc _ _ _ h2]
  · have := e.1
    unfold regS
    omega
end Go.Proofs.YtdhbiogcaekbbaaDoor
