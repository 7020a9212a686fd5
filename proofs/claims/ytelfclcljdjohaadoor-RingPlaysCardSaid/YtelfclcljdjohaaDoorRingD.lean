/- Messages through a ring: the push's accesses (2). -/
import Derived.Test.YtelfclcljdjohaaDoorRingC
namespace Go.Proofs.YtelfclcljdjohaaDoor
open Go.RowKit
attribute [local go_sem] run_mkf events_mkf

/-- How far t is ahead of h. -/
def dist (P t h : Nat) : Int := ((t : Int) - (h : Int)) % (2 * (P : Int))
set_option maxRecDepth 100000 in
set_option maxHeartbeats 1600000 in
theorem room_any {w : World} {B b mb lb : Nat} {X : Nat → Prop} {s : RS} {vi vo : Value} {c : Int} (h : RAt w B b mb lb X s vi vo c) (hk : s.ok) :
    Calls Tryd.prog 48 #[.pointer (some ⟨b, 0, none⟩)] w fun e w' =>
      e = .returned (.tuple #[.bool (decide (dist s.P s.tl s.ih = s.P)), .int .i64 (if dist s.P s.tl s.ih = s.P then 2 else 0)]) ∧ RAt w' B b mb lb X { s with it := s.tl, ia := if dist s.P s.tl s.ih = s.P then s.ia else 3 } vi vo (wrap64 (c + 1)) ∧ Only (regS b mb lb) w w' := by
  have hp : 1 < s.mem.length := by
    have := hk.len
    have : 1 * 1 ≤ s.P * s.W := Nat.mul_le_mul hk.p1 hk.w1
    omega
  have hg := get_any h.m h.c2 1 hp
  rw [tl_get hk hp] at hg
  have HG := Lib.hid hg
  have H := Lib.hid h
  have hP1 := hk.p1
  have hP8 := hk.p8
  have ht2 := hk.t2
  have hih := hk.ih
  clear h hk hg hp
  go_enter Tryd.func48, Tryd.ntmps48
  go_wp2_with fail
  refine HG.out.mono ?_
  rintro e w1 ⟨rfl, hM, hO⟩
  have h1 := H.out.mem_ hM hO
  have c5 := h1.c5
  have f5 := h1.r.fr 5
  have h2 := h1.same 5 (.int .i64 s.tl) (s' := { s with it := s.tl }) rfl rfl rfl rfl
  have H2 := Lib.hid h2
  have HO := Lib.hid (onl_trans (onl_mono (T := regS b mb lb) hO fun k e => .inr e) (set_only w1 b mb lb 5 (.int .i64 s.tl)))
  have d0 := h2.c0
  have d4 := h2.c4
  have d5 := h2.c5
  have d3 := h2.c3
  have f3 := h2.r.fr 3
  have hw : IntKind.i64.wrap ((s.tl : Int) - (s.ih : Int)) = (s.tl : Int) - (s.ih : Int) := by rw [IntKind.wrap_i64]; omega
  clear hM hO h1 h2 HG H
  go_wp2_with fail
  generalize w1.setCell ⟨b, 5, none⟩ (.int .i64 s.tl) = w2 at *
  go_quiet ((go_at_call 36; exact Calls.quiet_of (round_any s.P _ (cell_heap d0 rfl) hP1 hP8 (by omega) (by omega))))
  rw [show ((s.tl : Int) - (s.ih : Int)) % (2 * (s.P : Int)) = dist s.P s.tl s.ih from rfl]
  have H3 := Lib.hid (H2.out.below (below_drewN' _ nq))
  have HO3 := Lib.hid (onl_drewN HO.out nq)
  have c3 := H3.out.c3
  have g3 := H3.out.r.fr 3
  generalize w2.drewN nq = w3 at *
  by_cases hd : dist s.P s.tl s.ih = s.P
  · have hb : (dist s.P s.tl s.ih == (s.P : Int)) = true := by simp [hd]
    clear H2
    go_wp2
    go_ret2
    exact ⟨rfl, H3.out, HO3.out⟩
  · have hb : (dist s.P s.tl s.ih == (s.P : Int)) = false := by simp [hd]
    have H4 := Lib.hid (H3.out.same 3 (nxW b 3) (s' := { s with it := s.tl, ia := 3 }) rfl rfl rfl rfl)
    have HO4 := Lib.hid (onl_trans HO3.out (set_only w3 b mb lb 3 (nxW b 3)))
    clear H2
    go_wp2
    go_ret2
    exact ⟨rfl, H4.out, HO4.out⟩
end Go.Proofs.YtelfclcljdjohaaDoor
