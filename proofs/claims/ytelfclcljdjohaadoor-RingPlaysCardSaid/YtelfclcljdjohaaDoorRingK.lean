/- Messages through a ring: the last step of a pop; Cells. -/
import Derived.Test.YtelfclcljdjohaaDoorRingJ
namespace Go.Proofs.YtelfclcljdjohaaDoor
open Go.RowKit
attribute [local go_sem] run_mkf events_mkf
attribute [local go_sem ↓] nilf_W nilf_R guard_W guard_R

set_option maxRecDepth 100000 in
set_option maxHeartbeats 800000 in
theorem step_r_over {w : World} {B b mb lb : Nat} {X : Nat → Prop} {s s1 : RS} {vi vo : Value} {c c1 : Int} (h : RAt w B b mb lb X s vi vo c) (hoa : s.oa ≠ 0) (f : FuncId) (hf : nxR b s.oa = .func (.func f) #[.pointer (some ⟨b, 0, none⟩)] #[]) (hcf : ∀ W, Sem.run Tryd.prog (callFunc f #[.pointer (some ⟨b, 0, none⟩)]) W = .ok (.enter f #[.pointer (some ⟨b, 0, none⟩)]) W) (hl : s1.ol.length ≤ 65536)
    (HN : Calls Tryd.prog f #[.pointer (some ⟨b, 0, none⟩)] w fun e w' => e = .returned (.tuple #[.bool true, .int .i64 0]) ∧ RAt w' B b mb lb X s1 vi vo c1 ∧ Only (regS b mb lb) w w') :
    Calls Tryd.prog 18 #[.pointer (some ⟨b, 0, none⟩), .bool false] w fun e w' => ∃ v, e = .returned (.tuple #[v, .bool true, .int .i64 0]) ∧ RAt w' B b mb lb X { s1 with oa := 0 } vi vo c1 ∧ Only (regS b mb lb) w w' ∧ IntsIn w' v s1.ol ∧ ∀ g, v.ownBlock = some g → w.heap.size ≤ g := by
  have HB := Lib.hid (busy_r h)
  rw [decide_eq_false hoa] at HB
  have c8 := h.c8
  rw [hf] at c8
  have HN' := Lib.hid HN
  clear h hoa hf HN
  go_enter Tryd.func18, Tryd.ntmps18
  go_wp2_with fail
  refine HB.out.mono ?_
  rintro e w' ⟨rfl, rfl⟩
  go_wp2_with fail
  refine (side_r b w).mono ?_
  rintro e w' ⟨rfl, rfl⟩
  go_wp2_with fail
  refine HN'.out.mono ?_
  rintro e w1 ⟨rfl, hT, hO⟩
  have d8 := hT.c8
  have f8 := hT.r.fr 8
  have hT0 := hT.same 8 .nilFunc (s' := { s1 with oa := 0 }) rfl rfl rfl rfl
  have hO0 := onl_trans hO (set_only w1 b mb lb 8 .nilFunc)
  have e11 := hT0.c11
  have HCL := Lib.hid (clone_any (IntsIn.of_own hT0.ol rfl) hl)
  have HT0 := Lib.hid hT0
  have HO0 := Lib.hid hO0
  have hsz := hO0.size
  have Hsz := Lib.hid hsz
  clear hT hO hT0 hO0 HN' HB c8 hl hsz
  go_wp2_with fail
  refine HCL.out.mono ?_
  rintro e w2 ⟨v, rfl, ho, hb⟩
  have HT2 := Lib.hid (HT0.out.below hb)
  have HO2 := Lib.hid (onl_trans HO0.out (onl_below (S := regS b mb lb) hb))
  have HI := Lib.hid (IntsIn.of_own ho rfl)
  have HG := Lib.hid (show ∀ g, v.ownBlock = some g → w.heap.size ≤ g from fun g hg => Nat.le_trans Hsz.out (ho.lt g hg).1)
  clear ho hb HCL
  go_wp2
  go_ret3
  exact ⟨v, rfl, HT2.out, HO2.out, HI.out, HG.out⟩
theorem cells_any {w : World} {B b mb lb : Nat} {X : Nat → Prop} {s : RS} {vi vo : Value} {c : Int} (h : RAt w B b mb lb X s vi vo c) :
    Calls Tryd.prog 26 #[.pointer (some ⟨b, 0, none⟩)] w fun e w' => ∃ v', e = .returned v' ∧ w'.ownsRow w.heap.size 3 1 v' s.mem.length (nums s.mem) ∧ Below w.heap.size w w' := by
  have c2 := h.c2
  have HA := Lib.hid (all_any h.m)
  clear h
  go_enter Tryd.func26, Tryd.ntmps26
  go_wp2_with fail
  refine HA.out.mono ?_
  rintro e w' ⟨v', rfl, ho, hb⟩
  have HO := Lib.hid ho
  have HB := Lib.hid hb
  clear ho hb HA
  go_wp2
  go_ret
  exact ⟨_, rfl, HO.out, HB.out⟩
end Go.Proofs.YtelfclcljdjohaaDoor
