/- Messages through a ring: a step. -/
import Derived.Test.YtelfclcljdjohaaDoorRingI
namespace Go.Proofs.YtelfclcljdjohaaDoor
open Go.RowKit
attribute [local go_sem] run_mkf events_mkf
attribute [local go_sem ↓] nilf_W nilf_R guard_W guard_R

theorem step_idle_w {w : World} {B b mb lb : Nat} {X : Nat → Prop} {s : RS} {vi vo : Value} {c : Int} (h : RAt w B b mb lb X s vi vo c) (hia : s.ia = 0) :
    Calls Tryd.prog 18 #[.pointer (some ⟨b, 0, none⟩), .bool true] w fun e w' => e = .returned (.tuple #[.slice none 0 0, .bool false, .int .i64 1]) ∧ w = w' := by
  have HB := Lib.hid (busy_w h)
  rw [decide_eq_true hia] at HB
  clear h hia
  go_enter Tryd.func18, Tryd.ntmps18
  go_wp2_with fail
  refine HB.out.mono ?_
  rintro e w' ⟨rfl, rfl⟩
  go_wp2
  go_ret3
  exact ⟨rfl, rfl⟩
theorem step_idle_r {w : World} {B b mb lb : Nat} {X : Nat → Prop} {s : RS} {vi vo : Value} {c : Int} (h : RAt w B b mb lb X s vi vo c) (hoa : s.oa = 0) :
    Calls Tryd.prog 18 #[.pointer (some ⟨b, 0, none⟩), .bool false] w fun e w' => e = .returned (.tuple #[.slice none 0 0, .bool false, .int .i64 1]) ∧ w = w' := by
  have HB := Lib.hid (busy_r h)
  rw [decide_eq_true hoa] at HB
  clear h hoa
  go_enter Tryd.func18, Tryd.ntmps18
  go_wp2_with fail
  refine HB.out.mono ?_
  rintro e w' ⟨rfl, rfl⟩
  go_wp2
  go_ret3
  exact ⟨rfl, rfl⟩
theorem enter_head (b : Nat) (W : World) : Sem.run Tryd.prog (callFunc 40 #[.pointer (some ⟨b, 0, none⟩)]) W = .ok (.enter 40 #[.pointer (some ⟨b, 0, none⟩)]) W := by kernel_rfl
set_option maxRecDepth 100000 in
set_option maxHeartbeats 800000 in
theorem step_w {w : World} {B b mb lb : Nat} {X : Nat → Prop} {s s1 : RS} {vi vo : Value} {c c1 : Int} (h : RAt w B b mb lb X s vi vo c) (hia : s.ia ≠ 0) (f : FuncId) (hf : nxW b s.ia = .func (.func f) #[.pointer (some ⟨b, 0, none⟩)] #[]) (hcf : ∀ W, Sem.run Tryd.prog (callFunc f #[.pointer (some ⟨b, 0, none⟩)]) W = .ok (.enter f #[.pointer (some ⟨b, 0, none⟩)]) W) (over : Bool) (er : Int)
    (HN : Calls Tryd.prog f #[.pointer (some ⟨b, 0, none⟩)] w fun e w' => e = .returned (.tuple #[.bool over, .int .i64 er]) ∧ RAt w' B b mb lb X s1 vi vo c1 ∧ Only (regS b mb lb) w w') :
    Calls Tryd.prog 18 #[.pointer (some ⟨b, 0, none⟩), .bool true] w fun e w' => e = .returned (.tuple #[.slice none 0 0, .bool over, .int .i64 er]) ∧ RAt w' B b mb lb X { s1 with ia := if over then 0 else s1.ia } vi vo c1 ∧ Only (regS b mb lb) w w' := by
  have HB := Lib.hid (busy_w h)
  rw [decide_eq_false hia] at HB
  have c3 := h.c3
  rw [hf] at c3
  have HN' := Lib.hid HN
  clear h hia hf HN
  go_enter Tryd.func18, Tryd.ntmps18
  go_wp2_with fail
  refine HB.out.mono ?_
  rintro e w' ⟨rfl, rfl⟩
  go_wp2_with fail
  refine (side_w b w).mono ?_
  rintro e w' ⟨rfl, rfl⟩
  go_wp2_with fail
  refine HN'.out.mono ?_
  rintro e w1 ⟨rfl, hT, hO⟩
  have d3 := hT.c3
  have f3 := hT.r.fr 3
  have HT0 := Lib.hid (hT.same 3 (nxW b 0) (s' := { s1 with ia := 0 }) rfl rfl rfl rfl)
  have HO0 := Lib.hid (onl_trans hO (set_only w1 b mb lb 3 (nxW b 0)))
  have HT := Lib.hid hT
  have HO := Lib.hid hO
  clear hT hO HN' HB c3
  cases over
  · go_wp2
    go_ret3
    exact ⟨rfl, HT.out, HO.out⟩
  · go_wp2
    go_ret3
    exact ⟨rfl, HT0.out, HO0.out⟩
set_option maxRecDepth 100000 in
set_option maxHeartbeats 800000 in
theorem step_r {w : World} {B b mb lb : Nat} {X : Nat → Prop} {s s1 : RS} {vi vo : Value} {c c1 : Int} (h : RAt w B b mb lb X s vi vo c) (hoa : s.oa ≠ 0) (f : FuncId) (hf : nxR b s.oa = .func (.func f) #[.pointer (some ⟨b, 0, none⟩)] #[]) (hcf : ∀ W, Sem.run Tryd.prog (callFunc f #[.pointer (some ⟨b, 0, none⟩)]) W = .ok (.enter f #[.pointer (some ⟨b, 0, none⟩)]) W) (over : Bool) (er : Int) (hq : over = false ∨ er ≠ 0)
    (HN : Calls Tryd.prog f #[.pointer (some ⟨b, 0, none⟩)] w fun e w' => e = .returned (.tuple #[.bool over, .int .i64 er]) ∧ ∃ vo', RAt w' B b mb lb X s1 vi vo' c1 ∧ Only (turnS b mb lb vo) w w') :
    Calls Tryd.prog 18 #[.pointer (some ⟨b, 0, none⟩), .bool false] w fun e w' => e = .returned (.tuple #[.slice none 0 0, .bool over, .int .i64 er]) ∧ ∃ vo', RAt w' B b mb lb X { s1 with oa := if over then 0 else s1.oa } vi vo' c1 ∧ Only (turnS b mb lb vo) w w' := by
  have HB := Lib.hid (busy_r h)
  rw [decide_eq_false hoa] at HB
  have c8 := h.c8
  rw [hf] at c8
  have HN' := Lib.hid HN
  clear h hoa hf HN
  go_enter Tryd.func18, Tryd.ntmps18
  go_wp2_with fail
  refine HB.out.mono ?_
  rintro e w' ⟨rfl, rfl⟩
  go_wp2_with fail
  refine (side_r b w).mono ?_
  rintro e w' ⟨rfl, rfl⟩
  go_wp2_with fail
  refine HN'.out.mono ?_
  rintro e w1 ⟨rfl, vo', hT, hO⟩
  have d8 := hT.c8
  have f8 := hT.r.fr 8
  have HT0 := Lib.hid (hT.same 8 (nxR b 0) (s' := { s1 with oa := 0 }) rfl rfl rfl rfl)
  have HO0 := Lib.hid (onl_trans hO (onl_mono (T := turnS b mb lb vo) (set_only w1 b mb lb 8 (nxR b 0)) fun k e => .inl e))
  have HT := Lib.hid hT
  have HO := Lib.hid hO
  clear hT hO HN' HB c8
  cases over
  · go_wp2
    go_ret3
    exact ⟨rfl, ⟨_, HT.out⟩, HO.out⟩
  · have hne : (er != 0) = true := by
      rcases hq with e | e
      · cases e
      · simpa using e
    go_wp2
    go_ret3
    exact ⟨rfl, ⟨_, HT0.out⟩, HO0.out⟩
end Go.Proofs.YtelfclcljdjohaaDoor
