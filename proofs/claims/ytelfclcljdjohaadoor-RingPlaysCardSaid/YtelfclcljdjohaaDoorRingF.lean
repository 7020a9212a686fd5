/- Messages through a ring: the last access of a push; a pop's first accesses. -/
import Derived.Test.YtelfclcljdjohaaDoorRingE
namespace Go.Proofs.YtelfclcljdjohaaDoor
open Go.RowKit
attribute [local go_sem] run_mkf events_mkf

def nextOf (P a : Nat) : Nat := (a + 1) % (2 * P)
theorem nextOf_lt {P a : Nat} (hP : 1 ≤ P) : nextOf P a < 2 * P := Nat.mod_lt _ (by omega)
theorem next_eq (P a : Nat) : ((a : Int) + 1) % (2 * (P : Int)) = ((nextOf P a : Nat) : Int) := by
  unfold nextOf
  rw [Int.natCast_emod]
  congr 1
/-- A side's last access: head, or tail, is one further. -/
theorem write_next {w : World} {B b mb lb : Nat} {X : Nat → Prop} {s : RS} {vi vo : Value} {c : Int} (h : RAt w B b mb lb X s vi vo c) (hk : s.ok) (i a : Nat) (hi : i ≤ 1) :
    ∀ W', W'.heap = w.heap → Calls Tryd.prog 55 #[.pointer (some ⟨mb, 0, none⟩), .int .i64 i, .int .i64 ((nextOf s.P a : Nat) : Int)] W' fun e w' =>
      e = .returned (.int .i64 0) ∧ MemAt w' mb lb (s.mem.set i ((nextOf s.P a : Nat) : Int)) (wrap64 (c + 1)) ∧ Only (memS mb lb) W' w' := by
  intro W' hW'
  have := nextOf_lt (a := a) hk.p1
  have h8 := hk.p8
  have hl : i < s.mem.length := by
    have := hk.len
    have : 1 * 1 ≤ s.P * s.W := Nat.mul_le_mul hk.p1 hk.w1
    omega
  exact write_ok (h.m.heap hW') i _ hl (by omega) (by omega)
set_option maxRecDepth 100000 in
set_option maxHeartbeats 1600000 in
theorem put_last {w : World} {B b mb lb : Nat} {X : Nat → Prop} {s : RS} {vi vo : Value} {c : Int} (h : RAt w B b mb lb X s vi vo c) (hk : s.ok) (hn : s.inn = s.W) :
    Calls Tryd.prog 51 #[.pointer (some ⟨b, 0, none⟩)] w fun e w' =>
      e = .returned (.tuple #[.bool true, .int .i64 0]) ∧ RAt w' B b mb lb X { s with mem := s.mem.set 1 ((nextOf s.P s.it : Nat) : Int) } vi vo (wrap64 (c + 1)) ∧ Only (regS b mb lb) w w' := by
  have c0 := h.c0
  have c1 := h.c1
  have c2 := h.c2
  have c5 := h.c5
  have c7 := h.c7
  rw [hn] at c7
  have hP1 := hk.p1
  have hP8 := hk.p8
  have hit := hk.it
  have hit16 : s.it ≤ 16 := by omega
  have H := Lib.hid h
  have HW := Lib.hid (write_next h hk 1 s.it (by omega))
  have HC := Lib.hid (show ∀ W', W'.heap = w.heap → Calls Tryd.prog 36 #[.pointer (some ⟨b, 0, none⟩), .int .i64 ((s.it : Int) + 1)] W' fun e w' => e = .returned (.int .i64 ((nextOf s.P s.it : Nat) : Int)) ∧ ∃ q, w' = W'.drewN q from
    fun W' hW' => by
      have := round_any s.P ((s.it : Int) + 1) (cell_heap c0 hW') hP1 hP8 (by omega) (by omega)
      rw [next_eq] at this
      exact this)
  have hnb := Lib.hid (show ¬ memS mb lb b from fun e => e.elim h.ne.1 h.ne.2)
  have hw1 : IntKind.i64.wrap ((s.it : Int) + 1) = (s.it : Int) + 1 := by rw [IntKind.wrap_i64]; omega
  have hnlt : ¬ (s.W : Int) < (s.W : Int) := by omega
  clear h hk hn hP1 hP8 hit
  go_enter Tryd.func51, Tryd.ntmps51
  go_wp2_with fail
  go_quiet (fail)
  go_wp2_with fail
  go_region_held3 (fun w' => w'.cell? ⟨b, 2, none⟩ = some (.pointer (some ⟨mb, 0, none⟩)) ∧ w'.cell? ⟨b, 5, none⟩ = some (.int .i64 s.it)) (go_keep)
    (first
      | (go_at_call 36; refine (HC.out _ (by rfl)).mono ?_; rintro e w' ⟨rfl, q, rfl⟩)
      | (go_at_call 55; refine (HW.out _ (by rfl)).mono ?_; rintro e w' ⟨rfl, hM, hO⟩; have hO' := onl_heap (a := w) hO rfl rfl rfl rfl; have k2 := cell_onl c2 hO' hnb.out; have k5 := cell_onl c5 hO' hnb.out; have HM := Lib.hid hM; have HO := Lib.hid hO'; clear hM hO hO'))
  have HF := Lib.hid (H.out.mem_ HM.out HO.out)
  have HOF := Lib.hid (onl_mono (T := regS b mb lb) HO.out fun k e => .inr e)
  clear H HM HO HW HC
  go_wp2
  go_ret2
  exact ⟨rfl, HF.out, HOF.out⟩
set_option maxRecDepth 100000 in
set_option maxHeartbeats 800000 in
theorem tail_any {w : World} {B b mb lb : Nat} {X : Nat → Prop} {s : RS} {vi vo : Value} {c : Int} (h : RAt w B b mb lb X s vi vo c) (hk : s.ok) :
    Calls Tryd.prog 42 #[.pointer (some ⟨b, 0, none⟩)] w fun e w' => e = .returned (.tuple #[.bool false, .int .i64 0]) ∧ RAt w' B b mb lb X { s with ot := s.tl, oa := 2 } vi vo (wrap64 (c + 1)) ∧ Only (regS b mb lb) w w' := by
  have hp : 1 < s.mem.length := by
    have := hk.len
    have : 1 * 1 ≤ s.P * s.W := Nat.mul_le_mul hk.p1 hk.w1
    omega
  have hg := get_any h.m h.c2 1 hp
  rw [tl_get hk hp] at hg
  have HG := Lib.hid hg
  have H := Lib.hid h
  clear h hk hg hp
  go_enter Tryd.func42, Tryd.ntmps42
  go_wp2_with fail
  refine HG.out.mono ?_
  rintro e w1 ⟨rfl, hM, hO⟩
  have h1 := H.out.mem_ hM hO
  have c10 := h1.c10
  have c8 := h1.c8
  have f10 := h1.r.fr 10
  have f8 := h1.r.fr 8
  have h2 := h1.same 10 (.int .i64 s.tl) (s' := { s with ot := s.tl }) rfl rfl rfl rfl
  have h3 := h2.same 8 (nxR b 2) (s' := { s with ot := s.tl, oa := 2 }) rfl rfl rfl rfl
  have H3 := Lib.hid h3
  have HO := Lib.hid (onl_trans (onl_mono (T := regS b mb lb) hO fun k e => .inr e) (onl_trans (set_only w1 b mb lb 10 (.int .i64 s.tl)) (set_only _ b mb lb 8 (nxR b 2))))
  clear hM hO h1 h2 h3 HG H
  go_wp2
  go_ret2
  exact ⟨rfl, H3.out, HO.out⟩
set_option maxRecDepth 100000 in
set_option maxHeartbeats 1600000 in
theorem some_any {w : World} {B b mb lb : Nat} {X : Nat → Prop} {s : RS} {vi vo : Value} {c : Int} (h : RAt w B b mb lb X s vi vo c) (hk : s.ok) :
    Calls Tryd.prog 49 #[.pointer (some ⟨b, 0, none⟩)] w fun e w' =>
      e = .returned (.tuple #[.bool (decide (s.hd = s.ot)), .int .i64 (if s.hd = s.ot then 2 else 0)]) ∧ RAt w' B b mb lb X { s with oh := s.hd, oa := if s.hd = s.ot then s.oa else 3 } vi vo (wrap64 (c + 1)) ∧ Only (regS b mb lb) w w' := by
  have hp : 0 < s.mem.length := by rw [hk.len]; omega
  have hg := get_any h.m h.c2 0 hp
  rw [hd_get hk hp] at hg
  have HG := Lib.hid hg
  have H := Lib.hid h
  clear h hk hg hp
  go_enter Tryd.func49, Tryd.ntmps49
  go_wp2_with fail
  refine HG.out.mono ?_
  rintro e w1 ⟨rfl, hM, hO⟩
  have h1 := H.out.mem_ hM hO
  have c9 := h1.c9
  have f9 := h1.r.fr 9
  have h2 := h1.same 9 (.int .i64 s.hd) (s' := { s with oh := s.hd }) rfl rfl rfl rfl
  have H2 := Lib.hid h2
  have HO := Lib.hid (onl_trans (onl_mono (T := regS b mb lb) hO fun k e => .inr e) (set_only w1 b mb lb 9 (.int .i64 s.hd)))
  have d9 := h2.c9
  have d10 := h2.c10
  clear hM hO h1 h2 HG H
  go_wp2_with fail
  generalize w1.setCell ⟨b, 9, none⟩ (.int .i64 s.hd) = w2 at *
  go_quiet (fail)
  have H3 := Lib.hid (H2.out.below (below_drewN' _ nq))
  have HO3 := Lib.hid (onl_drewN HO.out nq)
  have c8 := H3.out.c8
  have g8 := H3.out.r.fr 8
  generalize w2.drewN nq = w3 at *
  by_cases hd : s.hd = s.ot
  · have hb : ((s.hd : Int) == (s.ot : Int)) = true := by simp [hd]
    clear H2
    go_wp2
    go_ret2
    exact ⟨rfl, by have := H3.out; rw [hd] at this; exact this, HO3.out⟩
  · have hb : ((s.hd : Int) == (s.ot : Int)) = false := by simp; omega
    have H4 := Lib.hid (H3.out.same 8 (nxR b 3) (s' := { s with oh := s.hd, oa := 3 }) rfl rfl rfl rfl)
    have HO4 := Lib.hid (onl_trans HO3.out (set_only w3 b mb lb 8 (nxR b 3)))
    clear H2
    go_wp2
    go_ret2
    exact ⟨rfl, H4.out, HO4.out⟩
end Go.Proofs.YtelfclcljdjohaaDoor
