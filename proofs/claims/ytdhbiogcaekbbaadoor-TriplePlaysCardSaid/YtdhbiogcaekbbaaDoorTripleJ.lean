/- The register of three slots: lives. -/
import Derived.Test.YtdhbiogcaekbbaaDoorTripleI
namespace Go.Proofs.YtdhbiogcaekbbaaDoor
open Go.RowKit

theorem ints_new (w : World) (t : TypeId) (x : Int) : IntsIn (w.alloc (.cells #[.int .i64 x] t)) (.slice (some ⟨w.heap.size, 0, none⟩) 1 1) [x] := by
  refine ⟨_, 1, rfl, Nat.le_refl _, fun _ => ⟨w.heap.size, 0, rfl, fun i hi => ?_⟩⟩
  have h0 : i = 0 := by simp at hi; exact hi
  subst h0
  rw [World.cell?_alloc_at _ _ _ _ rfl]
  rfl
section
variable {W w : World} {b mb lb : Nat} {s : TS}
theorem ctx_step_eq (h : Ctx W w b mb lb s) (x : Bool) {s' : TS} {l : List Int} {d : Bool} {f : Int} (hr : s.step x = (s', l, d, f)) :
    Calls Tryd.prog 18 #[.pointer (some ⟨b, 0, none⟩), .bool x] w fun e w' => ∃ v, e = .returned (.tuple #[v, .bool d, .int .i64 f]) ∧
      Ctx W w' b mb lb s' ∧ Only (regS b mb lb) w w' ∧ IntsIn w' v l ∧ ∀ g, v.ownBlock = some g → w.heap.size ≤ g := by
  have := ctx_step h x
  rw [hr] at this
  exact this
end
theorem IntsIn.form {w : World} {v : Value} {l : List Int} (h : IntsIn w v l) : ∃ A c, v = .slice A l.length c := by
  obtain ⟨A, c, rfl, _⟩ := h
  exact ⟨A, c, rfl⟩

theorem words1 : wordsOf 1 = 1 := by decide
def x0 (x : Nat) : TS := { W := 1, mem := [0, 0, 0, 0], ia := 0, io := 1, il := [], inn := 0, oa := 0, oo := 2, ol := [], x := x }
def x1 (x : Nat) : TS := { x0 x with ia := 3, il := [7] }
def x2 (x : Nat) : TS := { x1 x with oa := 1 }
def x3 (x : Nat) : TS := { x2 x with mem := [0, 0, 7, 0], inn := 1 }
def x4 (x : Nat) : TS := { x3 x with mem := [5, 0, 7, 0], io := 0, ia := 0 }
def x5 (x : Nat) : TS := { x4 x with oa := 2 }
def x6 (x : Nat) : TS := { x5 x with mem := [2, 0, 7, 0], oo := 1, oa := 3 }
def x7 (x : Nat) : TS := { x6 x with ol := [7], oa := 0 }
theorem e0 (x : Nat) : ({ TS.new (wordsOf 1) with x := x } : TS) = x0 x := by rw [words1]; rfl
theorem e1 (x : Nat) : (x0 x).wrt [7] = x1 x := rfl
theorem e2 (x : Nat) : (x1 x).rd = (x2 x, 0) := by simp [TS.rd, x2, x1, x0]
theorem e3 (x : Nat) : (x2 x).step true = (x3 x, [], false, 0) := by simp [TS.step, TS.stepW, x3, x2, x1, x0]
theorem e4 (x : Nat) : (x3 x).step true = (x4 x, [], true, 0) := by simp [TS.step, TS.stepW, TS.mid, x4, x3, x2, x1, x0]
theorem e5 (x : Nat) : (x4 x).step false = (x5 x, [], false, 0) := by simp [TS.step, TS.stepR, TS.mid, x5, x4, x3, x2, x1, x0]
theorem e6 (x : Nat) : (x5 x).step false = (x6 x, [], false, 0) := by simp [TS.step, TS.stepR, TS.mid, x6, x5, x4, x3, x2, x1, x0]
theorem e7 (x : Nat) : (x6 x).step false = (x7 x, [7], true, 0) := by simp [TS.step, TS.stepR, TS.next, x7, x6, x5, x4, x3, x2, x1, x0]
set_option maxHeartbeats 1600000 in
theorem lives_any (w : World) : Calls Tryd.prog 9 #[] w fun e w' => e = .returned (.bool true) ∧ Below w.heap.size w w' := by
  go_enter Tryd.func9, Tryd.ntmps9
  go_wp2_with fail
  refine (ctx_new 1 (Below.refl w.heap.size w)).mono ?_
  rintro e w1 ⟨b, mb, lb, rfl, hB, g1, g2, g3, l1, l2, l3, hC⟩
  have hc := hC b w1 (Below.refl _ _) l1
  rw [e0] at hc
  have HC := Lib.hid hc
  clear hB g1 g2 g3 l1 l2 l3 hC hc
  go_wp2_with fail
  refine (ctx_write (HC.out.below (below_alloc (Nat.le_refl _) _)) (ints_new _ _ 7) (by simp [x0]) (fun x hx => by simp at hx; subst hx; unfold okWord; omega) (by simp [x0])).mono ?_
  rintro e w2 ⟨rfl, h2, -⟩
  rw [e1] at h2
  have HC := Lib.hid h2
  clear h2
  go_wp2_with fail
  refine (ctx_read HC.out).mono ?_
  rintro e w3 ⟨rfl, h2, -⟩
  rw [e2] at h2
  have HC := Lib.hid h2
  clear h2
  rw [e2]
  go_wp2_with fail
  refine (ctx_step_eq HC.out true (s' := x3 b) (l := []) (d := false) (f := 0) (e3 b)).mono ?_
  rintro e w4 ⟨v, rfl, h2, -, hi, -⟩
  obtain ⟨A, cc, rfl⟩ := hi.form
  have HC := Lib.hid h2
  clear h2 hi
  go_wp2_with fail
  refine (ctx_step_eq HC.out true (s' := x4 b) (l := []) (d := true) (f := 0) (e4 b)).mono ?_
  rintro e w5 ⟨v, rfl, h2, -, hi, -⟩
  obtain ⟨A, cc, rfl⟩ := hi.form
  have HC := Lib.hid h2
  clear h2 hi
  go_wp2_with fail
  refine (ctx_step_eq HC.out false (s' := x5 b) (l := []) (d := false) (f := 0) (e5 b)).mono ?_
  rintro e w6 ⟨v, rfl, h2, -, hi, -⟩
  obtain ⟨A, cc, rfl⟩ := hi.form
  have HC := Lib.hid h2
  clear h2 hi
  go_wp2_with fail
  refine (ctx_step_eq HC.out false (s' := x6 b) (l := []) (d := false) (f := 0) (e6 b)).mono ?_
  rintro e w7 ⟨v, rfl, h2, -, hi, -⟩
  obtain ⟨A, cc, rfl⟩ := hi.form
  have HC := Lib.hid h2
  clear h2 hi
  go_wp2_with fail
  refine (ctx_step_eq HC.out false (s' := x7 b) (l := [7]) (d := true) (f := 0) (e7 b)).mono ?_
  rintro e w8 ⟨v, rfl, h2, -, hi, -⟩
  obtain ⟨A, cc, rfl⟩ := hi.form
  have HC := Lib.hid h2
  have HI := Lib.hid hi
  clear h2 hi
  go_wp2_with fail
  refine (same_yes (HI.out.below (below_alloc (Nat.le_refl _) _)) (ints_new _ _ 7) (by decide)).mono ?_
  rintro e w9 ⟨rfl, qn, rfl⟩
  have HC9 := Lib.hid ((HC.out.below (below_alloc (Nat.le_refl _) (.cells #[.int .i64 7] 3))).drewN qn)
  go_wp2_with fail
  refine (ctx_own HC9.out true).mono ?_
  rintro e w10 ⟨rfl, rfl⟩
  rw [show (((x7 b).own true : Nat) : Int) = 0 by simp [TS.own, x7, x6, x5, x4]]
  go_wp2
  go_ret
  exact ⟨rfl, HC9.out.bel⟩
end Go.Proofs.YtdhbiogcaekbbaaDoor
