/- Messages through a ring: lives. -/
import Derived.Test.YtelfclcljdjohaaDoorRingR
import Derived.Test.YtelfclcljdjohaaDoorFill
namespace Go.Proofs.YtelfclcljdjohaaDoor
open Go.RowKit

theorem Ctx.less {W w : World} {b mb lb : Nat} {X Y : Nat → Prop} {s : RS} (h : Ctx W w b mb lb X s) (hY : ∀ k, Y k → X k) : Ctx W w b mb lb Y s := by
  obtain ⟨vi, vo, c, hT⟩ := h.at_
  exact ⟨⟨vi, vo, c, hT.r, hT.m, hT.il, hT.ol, hT.si, hT.so, fun g e k => hT.xi g e (hY g k), fun g e k => hT.xo g e (hY g k), fun k e => hT.lx k (hY k e)⟩, h.ok, h.bel, h.gb, h.gm, h.gl, fun k e => h.xr k (hY k e)⟩
theorem ctx_stepW_eq {W w : World} {b mb lb : Nat} {X : Nat → Prop} {s s' : RS} {d : Bool} {f : Int} (h : Ctx W w b mb lb X s) (hr : s.stepW = (s', d, f)) :
    Calls Tryd.prog 18 #[.pointer (some ⟨b, 0, none⟩), .bool true] w fun e w' => e = .returned (.tuple #[.slice none 0 0, .bool d, .int .i64 f]) ∧ Ctx W w' b mb lb X s' ∧ Kept X w w' := by
  have := ctx_stepW h
  rw [hr] at this
  exact this
def RS.runW (s : RS) : Nat → RS
  | 0 => s
  | k + 1 => (s.runW k).stepW.1
def RS.runR (s : RS) : Nat → RS
  | 0 => s
  | k + 1 => (s.runR k).stepR.1
theorem places1 : placesOf 1 = 1 := by decide
theorem words1 : wordsOf 1 = 1 := by decide
def x0 : RS := (RS.new 1 1).pushed [7]
def x1 : RS := ((x0.runW 3).stepW.1).pushed [8]
theorem q0 : (x0.runW 3).stepW = ((x0.runW 3).stepW.1, true, 0) := rfl
theorem q1 : x1.stepW.1.stepW = (x1.stepW.1.stepW.1, true, 2) := rfl
theorem q2 : dist x1.stepW.1.stepW.1.P x1.stepW.1.stepW.1.tl x1.stepW.1.stepW.1.hd = 1 := rfl
theorem q3 : (x0.runW 3).stepW.1.ia = 0 := rfl
theorem q4 : (x0.runW 3).stepW.1.W = 1 := rfl
set_option maxHeartbeats 1600000 in
theorem lives_any (w : World) : Calls Tryd.prog 9 #[] w fun e w' => e = .returned (.bool true) ∧ Below w.heap.size w w' := by
  go_enter Tryd.func9, Tryd.ntmps9
  go_wp2_with fail
  refine (ctx_new 1 1 (Below.refl w.heap.size w)).mono ?_
  rintro e w1 ⟨b, mb, lb, rfl, hB, hC⟩
  rw [places1, words1] at hC
  have HC := Lib.hid hC
  clear hB hC
  go_wp2_with fail
  refine (ctx_push (HC.out.below (below_alloc (Nat.le_refl _) _)) rfl (ints_new _ _ 7) rfl (fun x hx => by simp at hx; subst hx; unfold okWord; omega)).mono ?_
  rintro e w2 ⟨rfl, h2, -⟩
  have HC := Lib.hid (show Ctx w w2 b mb lb (fun _ => False) x0 from h2)
  clear h2
  go_wp2_with fail
  go_loopw [3] (fun i wr => ∃ k : Nat, k ≤ 3 ∧ i = .int .i64 k ∧ Ctx w wr b mb lb (fun _ => False) (x0.runW k)) (fun i _ => 3 - (intOf i).toNat)
  case atStart => exact ⟨0, Nat.zero_le _, rfl, HC.out⟩
  case round =>
    obtain ⟨k, hk, rfl, hC⟩ := hrel
    clear HC
    have HC := Lib.hid hC
    clear hC
    by_cases hlt : k < 3
    · have b1 : (k : Int) < 3 := by omega
      go_wp2_with fail
      refine (ctx_stepW HC.out).mono ?_
      rintro e w3 ⟨rfl, h3, -⟩
      have HC3 := Lib.hid h3
      clear h3 HC
      go_wp2
      go_roundw
      case rel => exact ⟨k + 1, by omega, by go_num, HC3.out⟩
      case measure => simp [intOf]; omega
    · obtain rfl : k = 3 := by omega
      go_wp2_with fail
      refine (ctx_stepW_eq HC.out q0).mono ?_
      rintro e w3 ⟨rfl, h3, -⟩
      have HC3 := Lib.hid h3
      clear h3 HC
      go_wp2_with fail
      refine (ctx_push (HC3.out.below (below_alloc (Nat.le_refl _) _)) q3 (ints_new _ _ 8) (by rw [q4]; rfl) (fun x hx => by simp at hx; subst hx; unfold okWord; omega)).mono ?_
      rintro e w4 ⟨rfl, h4, -⟩
      have HC4 := Lib.hid (show Ctx w w4 b mb lb (fun _ => False) x1 from h4)
      clear h4 HC3
      go_wp2_with fail
      refine (ctx_stepW HC4.out).mono ?_
      rintro e w5 ⟨rfl, h5, -⟩
      have HC5 := Lib.hid h5
      clear h5 HC4
      go_wp2_with fail
      refine (ctx_stepW_eq HC5.out q1).mono ?_
      rintro e w6 ⟨rfl, h6, -⟩
      have HC6 := Lib.hid h6
      clear h6 HC5
      go_wp2_with fail
      refine (ctx_count HC6.out).mono ?_
      rintro e w7 ⟨rfl, hb⟩
      have hb' := Lib.hid (HC6.out.below hb).bel
      clear hb HC6
      rw [q2]
      go_wp2
      go_ret
      exact ⟨rfl, hb'.out⟩
end Go.Proofs.YtelfclcljdjohaaDoor
