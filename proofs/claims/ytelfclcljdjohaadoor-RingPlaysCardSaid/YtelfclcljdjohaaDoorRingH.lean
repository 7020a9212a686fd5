/- Messages through a ring: Push, Pop, Drop. -/
import Derived.Test.YtelfclcljdjohaaDoorRingG
import Derived.Test.YtelfclcljdjohaaDoorMinMax
namespace Go.Proofs.YtelfclcljdjohaaDoor
open Go.RowKit
attribute [local go_sem] run_mkf events_mkf
attribute [local go_sem ↓] nilf_W nilf_R guard_W guard_R

set_option maxRecDepth 100000 in
set_option maxHeartbeats 800000 in
theorem pop_begin {w : World} {B b mb lb : Nat} {X : Nat → Prop} {s : RS} {vi vo : Value} {c : Int} (h : RAt w B b mb lb X s vi vo c) (hoa : s.oa = 0) :
    Calls Tryd.prog 20 #[.pointer (some ⟨b, 0, none⟩)] w fun e w' => e = .returned (.int .i64 0) ∧ RAt w' B b mb lb X { s with oa := 1, ol := [] } vi (.slice none 0 0) c ∧ Only (regS b mb lb) w w' := by
  have c8 := h.c8
  have c11 := h.c11
  have f8 := h.r.fr 8
  have f11 := h.r.fr 11
  have hg := guard_R b s.oa
  rw [hoa] at c8
  have h2 := h.upd 11 (.slice none 0 0) (s' := { s with ol := [] }) (vo' := .slice none 0 0) rfl rfl h.il (World.ownsRow_nil _ _ _ _) (fun g hg e => h.si g hg (e.imp id (fun e => by simp [Value.ownBlock] at e))) (fun g hg => by simp [Value.ownBlock] at hg) h.xi (fun g hg => by simp [Value.ownBlock] at hg)
  have h1 := h.same 8 (nxR b 1) (s' := { s with oa := 1 }) rfl rfl rfl rfl
  have h3 := h1.upd 11 (.slice none 0 0) (s' := { s with oa := 1, ol := [] }) (vo' := .slice none 0 0) rfl rfl h1.il (World.ownsRow_nil _ _ _ _) (fun g hg e => h.si g hg (e.imp id (fun e => by simp [Value.ownBlock] at e))) (fun g hg => by simp [Value.ownBlock] at hg) h.xi (fun g hg => by simp [Value.ownBlock] at hg)
  have H3 := Lib.hid h3
  have HO := Lib.hid (onl_trans (set_only w b mb lb 8 (nxR b 1)) (set_only _ b mb lb 11 (.slice none 0 0)))
  clear h h1 h2 h3 hoa hg
  go_enter Tryd.func20, Tryd.ntmps20
  go_wp2
  go_ret
  exact ⟨rfl, H3.out, HO.out⟩
theorem pop_busy {w : World} {B b mb lb : Nat} {X : Nat → Prop} {s : RS} {vi vo : Value} {c : Int} (h : RAt w B b mb lb X s vi vo c) (hoa : s.oa ≠ 0) :
    Calls Tryd.prog 20 #[.pointer (some ⟨b, 0, none⟩)] w fun e w' => e = .returned (.int .i64 1) ∧ w = w' := by
  have c8 := h.c8
  clear h
  go_enter Tryd.func20, Tryd.ntmps20
  go_wp2
  go_ret
  exact ⟨rfl, rfl⟩
theorem drop_w {w : World} {B b mb lb : Nat} {X : Nat → Prop} {s : RS} {vi vo : Value} {c : Int} (h : RAt w B b mb lb X s vi vo c) (hia : s.ia ≠ 0) :
    Calls Tryd.prog 19 #[.pointer (some ⟨b, 0, none⟩), .bool true] w fun e w' => e = .returned (.bool true) ∧ RAt w' B b mb lb X { s with ia := 0 } vi vo c ∧ Only (regS b mb lb) w w' := by
  have HB := Lib.hid (busy_w h)
  rw [decide_eq_false hia] at HB
  have c3 := h.c3
  have f3 := h.r.fr 3
  have HT := Lib.hid (h.same 3 (nxW b 0) (s' := { s with ia := 0 }) rfl rfl rfl rfl)
  have HO := Lib.hid (set_only w b mb lb 3 (nxW b 0))
  clear h hia
  go_enter Tryd.func19, Tryd.ntmps19
  go_wp2_with fail
  refine HB.out.mono ?_
  rintro e w' ⟨rfl, rfl⟩
  go_wp2_with fail
  refine (side_w b w).mono ?_
  rintro e w' ⟨rfl, rfl⟩
  go_wp2
  go_ret
  exact ⟨rfl, HT.out, HO.out⟩
theorem drop_w0 {w : World} {B b mb lb : Nat} {X : Nat → Prop} {s : RS} {vi vo : Value} {c : Int} (h : RAt w B b mb lb X s vi vo c) (hia : s.ia = 0) :
    Calls Tryd.prog 19 #[.pointer (some ⟨b, 0, none⟩), .bool true] w fun e w' => e = .returned (.bool false) ∧ w = w' := by
  have HB := Lib.hid (busy_w h)
  rw [decide_eq_true hia] at HB
  clear h hia
  go_enter Tryd.func19, Tryd.ntmps19
  go_wp2_with fail
  refine HB.out.mono ?_
  rintro e w' ⟨rfl, rfl⟩
  go_wp2
  go_ret
  exact ⟨rfl, rfl⟩
theorem drop_r {w : World} {B b mb lb : Nat} {X : Nat → Prop} {s : RS} {vi vo : Value} {c : Int} (h : RAt w B b mb lb X s vi vo c) (hoa : s.oa ≠ 0) :
    Calls Tryd.prog 19 #[.pointer (some ⟨b, 0, none⟩), .bool false] w fun e w' => e = .returned (.bool true) ∧ RAt w' B b mb lb X { s with oa := 0 } vi vo c ∧ Only (regS b mb lb) w w' := by
  have HB := Lib.hid (busy_r h)
  rw [decide_eq_false hoa] at HB
  have c8 := h.c8
  have f8 := h.r.fr 8
  have HT := Lib.hid (h.same 8 (nxR b 0) (s' := { s with oa := 0 }) rfl rfl rfl rfl)
  have HO := Lib.hid (set_only w b mb lb 8 (nxR b 0))
  clear h hoa
  go_enter Tryd.func19, Tryd.ntmps19
  go_wp2_with fail
  refine HB.out.mono ?_
  rintro e w' ⟨rfl, rfl⟩
  go_wp2_with fail
  refine (side_r b w).mono ?_
  rintro e w' ⟨rfl, rfl⟩
  go_wp2
  go_ret
  exact ⟨rfl, HT.out, HO.out⟩
theorem drop_r0 {w : World} {B b mb lb : Nat} {X : Nat → Prop} {s : RS} {vi vo : Value} {c : Int} (h : RAt w B b mb lb X s vi vo c) (hoa : s.oa = 0) :
    Calls Tryd.prog 19 #[.pointer (some ⟨b, 0, none⟩), .bool false] w fun e w' => e = .returned (.bool false) ∧ w = w' := by
  have HB := Lib.hid (busy_r h)
  rw [decide_eq_true hoa] at HB
  clear h hoa
  go_enter Tryd.func19, Tryd.ntmps19
  go_wp2_with fail
  refine HB.out.mono ?_
  rintro e w' ⟨rfl, rfl⟩
  go_wp2
  go_ret
  exact ⟨rfl, rfl⟩
end Go.Proofs.YtelfclcljdjohaaDoor
