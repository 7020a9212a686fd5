/- A register of four slots: Step, whatever the access. -/
import Derived.Test.YtmcelldklmjlkaaDoorFourF
import Derived.Defers
import Derived.OwnWalk
namespace Go.Proofs.YtmcelldklmjlkaaDoor
open Go.RowKit

theorem drop_wd {w : World} {b : Nat} {A : Option Addr} {n cc : Nat} (c2 : w.cell? ⟨b, 2, none⟩ = some (.slice A n cc)) (f2 : w.frozen? ⟨b, 2, none⟩ = false) (u : FrameMode) :
    CallsD Tryd.prog 37 #[.pointer (some ⟨b, 0, none⟩), .bool true] u w fun e u' w' => u' = u ∧ (e = .returned (.bool (decide ((0 : Int) < n))) ∧ w' = w.setCell ⟨b, 2, none⟩ (.slice none 0 0)) := by
  go_enter_d Tryd.func37, Tryd.ntmps37
  go_wp2_with fail
  refine (side_w b w).mono ?_
  rintro e w' ⟨rfl, rfl⟩
  go_wp2
  go_ret
  exact ⟨by simp, rfl⟩
theorem drop_rd {w : World} {b : Nat} {A : Option Addr} {n cc : Nat} (c6 : w.cell? ⟨b, 6, none⟩ = some (.slice A n cc)) (f6 : w.frozen? ⟨b, 6, none⟩ = false) (u : FrameMode) :
    CallsD Tryd.prog 37 #[.pointer (some ⟨b, 0, none⟩), .bool false] u w fun e u' w' => u' = u ∧ (e = .returned (.bool (decide ((0 : Int) < n))) ∧ w' = w.setCell ⟨b, 6, none⟩ (.slice none 0 0)) := by
  go_enter_d Tryd.func37, Tryd.ntmps37
  go_wp2_with fail
  refine (side_r b w).mono ?_
  rintro e w' ⟨rfl, rfl⟩
  go_wp2
  go_ret
  exact ⟨by simp, rfl⟩
section
variable {w : World} {b g o n cc N : Nat} {cap : Array Value} {R : World → Prop}
theorem stepw_idle (c2 : w.cell? ⟨b, 2, none⟩ = some (.slice none 0 0)) :
    Calls Tryd.prog 36 #[.pointer (some ⟨b, 0, none⟩), .bool true] w fun e w' => e = .returned (.tuple #[.slice none 0 0, .bool false, .int .i64 2]) ∧ w = w' := by
  go_enter Tryd.func36, Tryd.ntmps36
  go_wp2_with fail
  refine (side_w b w).mono ?_
  rintro e w' ⟨rfl, rfl⟩
  go_wp2
  go_ret3
  exact ⟨rfl, rfl⟩
theorem stepr_idle (c6 : w.cell? ⟨b, 6, none⟩ = some (.slice none 0 0)) :
    Calls Tryd.prog 36 #[.pointer (some ⟨b, 0, none⟩), .bool false] w fun e w' => e = .returned (.tuple #[.slice none 0 0, .bool false, .int .i64 2]) ∧ w = w' := by
  go_enter Tryd.func36, Tryd.ntmps36
  go_wp2_with fail
  refine (side_r b w).mono ?_
  rintro e w' ⟨rfl, rfl⟩
  go_wp2
  go_ret3
  exact ⟨rfl, rfl⟩
set_option maxHeartbeats 1600000 in
theorem stepw_more (c2 : w.cell? ⟨b, 2, none⟩ = some (.slice (some ⟨g, o, none⟩) (n + 2) cc)) (hcc : n + 2 ≤ cc) (cf : w.cell? ⟨g, o, none⟩ = some (.func (.func N) #[] cap))
    (hcf : ∀ w, (callFunc N cap).run Tryd.prog w = .ok (.enter N cap) w) (HA : Calls Tryd.prog N cap w fun e w' => e = .returned (.tuple #[]) ∧ R w') (hR : ∀ w', R w' → w'.cell? ⟨b, 2, none⟩ = some (.slice (some ⟨g, o, none⟩) (n + 2) cc) ∧ w'.frozen? ⟨b, 2, none⟩ = false) :
    Calls Tryd.prog 36 #[.pointer (some ⟨b, 0, none⟩), .bool true] w fun e w' => e = .returned (.tuple #[.slice none 0 0, .bool false, .int .i64 0]) ∧ ∃ w1, R w1 ∧ w' = w1.setCell ⟨b, 2, none⟩ (.slice (some ⟨g, o + 1, none⟩) (n + 1) (cc - 1)) := by
  have b1 : ((n : Int) + 2 == 0) = false := by simp; omega
  have b2 : ((n : Int) + 2 == 1) = false := by simp; omega
  have b3 : (0 : Int) < (n : Int) + 2 := by omega
  have b4 : (0 : Int) < (n : Int) + 1 := by omega
  have HA' := Lib.hid HA
  have HR := Lib.hid hR
  clear HA hR
  go_enter Tryd.func36, Tryd.ntmps36
  go_wp2_with fail
  refine (side_w b w).mono ?_
  rintro e w' ⟨rfl, rfl⟩
  go_wp2_with fail
  refine HA'.out.mono ?_
  rintro e w1 ⟨rfl, hr⟩
  obtain ⟨k2, f2⟩ := HR.out w1 hr
  have HRR := Lib.hid hr
  clear hr HR HA' c2 cf
  go_wp2
  go_ret3
  exact ⟨rfl, w1, HRR.out, rfl⟩
set_option maxHeartbeats 1600000 in
theorem stepr_more (c2 : w.cell? ⟨b, 6, none⟩ = some (.slice (some ⟨g, o, none⟩) (n + 2) cc)) (hcc : n + 2 ≤ cc) (cf : w.cell? ⟨g, o, none⟩ = some (.func (.func N) #[] cap))
    (hcf : ∀ w, (callFunc N cap).run Tryd.prog w = .ok (.enter N cap) w) (HA : Calls Tryd.prog N cap w fun e w' => e = .returned (.tuple #[]) ∧ R w') (hR : ∀ w', R w' → w'.cell? ⟨b, 6, none⟩ = some (.slice (some ⟨g, o, none⟩) (n + 2) cc) ∧ w'.frozen? ⟨b, 6, none⟩ = false) :
    Calls Tryd.prog 36 #[.pointer (some ⟨b, 0, none⟩), .bool false] w fun e w' => e = .returned (.tuple #[.slice none 0 0, .bool false, .int .i64 0]) ∧ ∃ w1, R w1 ∧ w' = w1.setCell ⟨b, 6, none⟩ (.slice (some ⟨g, o + 1, none⟩) (n + 1) (cc - 1)) := by
  have b1 : ((n : Int) + 2 == 0) = false := by simp; omega
  have b2 : ((n : Int) + 2 == 1) = false := by simp; omega
  have b3 : (0 : Int) < (n : Int) + 2 := by omega
  have b4 : (0 : Int) < (n : Int) + 1 := by omega
  have HA' := Lib.hid HA
  have HR := Lib.hid hR
  clear HA hR
  go_enter Tryd.func36, Tryd.ntmps36
  go_wp2_with fail
  refine (side_r b w).mono ?_
  rintro e w' ⟨rfl, rfl⟩
  go_wp2_with fail
  refine HA'.out.mono ?_
  rintro e w1 ⟨rfl, hr⟩
  obtain ⟨k2, f2⟩ := HR.out w1 hr
  have HRR := Lib.hid hr
  clear hr HR HA' c2 cf
  go_wp2
  go_ret3
  exact ⟨rfl, w1, HRR.out, rfl⟩
set_option maxHeartbeats 1600000 in
theorem stepw_last (c2 : w.cell? ⟨b, 2, none⟩ = some (.slice (some ⟨g, o, none⟩) 1 cc)) (hcc : 1 ≤ cc) (cf : w.cell? ⟨g, o, none⟩ = some (.func (.func N) #[] cap))
    (hcf : ∀ w, (callFunc N cap).run Tryd.prog w = .ok (.enter N cap) w) (HA : Calls Tryd.prog N cap w fun e w' => e = .returned (.tuple #[]) ∧ R w') (hR : ∀ w', R w' → w'.cell? ⟨b, 2, none⟩ = some (.slice (some ⟨g, o, none⟩) 1 cc) ∧ w'.frozen? ⟨b, 2, none⟩ = false) :
    Calls Tryd.prog 36 #[.pointer (some ⟨b, 0, none⟩), .bool true] w fun e w' => e = .returned (.tuple #[.slice none 0 0, .bool true, .int .i64 0]) ∧ ∃ w1 v, R w1 ∧ w' = (w1.setCell ⟨b, 2, none⟩ v).setCell ⟨b, 2, none⟩ (.slice none 0 0) := by
  by_cases hc1 : cc = 1
  · subst hc1
    have HA' := Lib.hid HA
    have HR := Lib.hid hR
    clear HA hR
    go_enter_defers Tryd.func36, Tryd.ntmps36
    go_wp2_with fail
    refine (side_w b w).mono ?_
    rintro e w' ⟨rfl, rfl⟩
    go_wp2_with fail
    refine HA'.out.mono ?_
    rintro e w1 ⟨rfl, hr⟩
    obtain ⟨k2, f2⟩ := HR.out w1 hr
    have HRR := Lib.hid hr
    have hs2 := World.cell?_setCell_same w1 ⟨b, 2, none⟩ (.slice (some ⟨g, o, none⟩) 0 0) k2
    clear hr HR HA' c2 cf
    go_wp2
    refine leaves_cons (f := 37) (args := #[.pointer (some ⟨b, 0, none⟩), .bool true]) (by simp) (by simp [go_sem]) ?_
    refine (drop_wd hs2 (by simpa using f2) .returning).mono ?_
    rintro e u' w'' ⟨rfl, rfl, rfl⟩
    exact ⟨_, results_tmp3 rfl _ _ _, rfl, w1, _, HRR.out, rfl⟩
  · have hc2 : 1 < cc := by omega
    have hc3 : ¬ cc - 1 = 0 := by omega
    have hc4 : 0 < cc - 1 := by omega
    have HA' := Lib.hid HA
    have HR := Lib.hid hR
    clear HA hR
    go_enter_defers Tryd.func36, Tryd.ntmps36
    go_wp2_with fail
    refine (side_w b w).mono ?_
    rintro e w' ⟨rfl, rfl⟩
    go_wp2_with fail
    refine HA'.out.mono ?_
    rintro e w1 ⟨rfl, hr⟩
    obtain ⟨k2, f2⟩ := HR.out w1 hr
    have HRR := Lib.hid hr
    have hs2 := World.cell?_setCell_same w1 ⟨b, 2, none⟩ (.slice (some ⟨g, o + 1, none⟩) 0 (cc - 1)) k2
    clear hr HR HA' c2 cf
    go_wp2
    refine leaves_cons (f := 37) (args := #[.pointer (some ⟨b, 0, none⟩), .bool true]) (by simp) (by simp [go_sem]) ?_
    refine (drop_wd hs2 (by simpa using f2) .returning).mono ?_
    rintro e u' w'' ⟨rfl, rfl, rfl⟩
    exact ⟨_, results_tmp3 rfl _ _ _, rfl, w1, _, HRR.out, rfl⟩
set_option maxHeartbeats 1600000 in
theorem stepr_last {l : List Int} (c6 : w.cell? ⟨b, 6, none⟩ = some (.slice (some ⟨g, o, none⟩) 1 cc)) (hcc : 1 ≤ cc) (cf : w.cell? ⟨g, o, none⟩ = some (.func (.func N) #[] cap))
    (hcf : ∀ w, (callFunc N cap).run Tryd.prog w = .ok (.enter N cap) w) (hl : l.length ≤ 65536) (HA : Calls Tryd.prog N cap w fun e w' => e = .returned (.tuple #[]) ∧ R w')
    (hR : ∀ w', R w' → w'.cell? ⟨b, 6, none⟩ = some (.slice (some ⟨g, o, none⟩) 1 cc) ∧ w'.frozen? ⟨b, 6, none⟩ = false ∧ ∃ A n c, w'.cell? ⟨b, 9, none⟩ = some (.slice A n c) ∧ ∀ v, IntsIn (w'.setCell ⟨b, 6, none⟩ v) (.slice A n c) l) :
    Calls Tryd.prog 36 #[.pointer (some ⟨b, 0, none⟩), .bool false] w fun e w' => ∃ v', e = .returned (.tuple #[v', .bool true, .int .i64 0]) ∧ ∃ w1 w2 v, R w1 ∧ w2.ownsRow w1.heap.size 3 1 v' l.length (nums l) ∧ Below w1.heap.size (w1.setCell ⟨b, 6, none⟩ v) w2 ∧ w' = w2.setCell ⟨b, 6, none⟩ (.slice none 0 0) := by
  by_cases hc1 : cc = 1
  · subst hc1
    have HA' := Lib.hid HA
    have HR := Lib.hid hR
    clear HA hR
    go_enter_defers Tryd.func36, Tryd.ntmps36
    go_wp2_with fail
    refine (side_r b w).mono ?_
    rintro e w' ⟨rfl, rfl⟩
    go_wp2_with fail
    refine HA'.out.mono ?_
    rintro e w1 ⟨rfl, hr⟩
    obtain ⟨k2, f2, Av, nv, cv, k9, hI⟩ := HR.out w1 hr
    have HRR := Lib.hid hr
    have hs2 := World.cell?_setCell_same w1 ⟨b, 6, none⟩ (.slice (some ⟨g, o, none⟩) 0 0) k2
    have hbl := World.block_lt_of_cell? _ _ k2
    have hss : (w1.setCell ⟨b, 6, none⟩ (.slice (some ⟨g, o, none⟩) 0 0)).heap.size = w1.heap.size := by simp [World.setCell]
    have HI := Lib.hid (hI (.slice (some ⟨g, o, none⟩) 0 0))
    have HS := Lib.hid (And.intro hs2 (And.intro f2 (And.intro hbl hss)))
    clear hr HR HA' c6 cf hI hs2 hbl hss
    go_wp2_with fail
    refine (clone_any HI.out hl).mono ?_
    rintro e w2 ⟨v', rfl, ho, hb⟩
    have HO := Lib.hid (And.intro ho hb)
    clear ho hb
    go_wp2
    obtain ⟨hs2, f2, hbl, hss⟩ := HS.out
    obtain ⟨ho, hb⟩ := HO.out
    refine leaves_cons (f := 37) (args := #[.pointer (some ⟨b, 0, none⟩), .bool false]) (by simp) (by simp [go_sem]) ?_
    refine (drop_rd (w := w2) ((hb.cell (p := ⟨b, 6, none⟩) (by rw [hss]; exact hbl)).trans hs2) ((World.frozen?_of_block (a := ⟨b, 6, none⟩) (hb.block b (by rw [hss]; exact hbl))).trans (by simpa using f2)) .returning).mono ?_
    rintro e u' w'' ⟨rfl, rfl, rfl⟩
    exact ⟨_, results_tmp3 rfl _ _ _, v', rfl, w1, w2, _, HRR.out, by rw [hss] at ho; exact ho, by rw [hss] at hb; exact hb, rfl⟩
  · have hc2 : 1 < cc := by omega
    have hc3 : ¬ cc - 1 = 0 := by omega
    have hc4 : 0 < cc - 1 := by omega
    have HA' := Lib.hid HA
    have HR := Lib.hid hR
    clear HA hR
    go_enter_defers Tryd.func36, Tryd.ntmps36
    go_wp2_with fail
    refine (side_r b w).mono ?_
    rintro e w' ⟨rfl, rfl⟩
    go_wp2_with fail
    refine HA'.out.mono ?_
    rintro e w1 ⟨rfl, hr⟩
    obtain ⟨k2, f2, Av, nv, cv, k9, hI⟩ := HR.out w1 hr
    have HRR := Lib.hid hr
    have hs2 := World.cell?_setCell_same w1 ⟨b, 6, none⟩ (.slice (some ⟨g, o + 1, none⟩) 0 (cc - 1)) k2
    have hbl := World.block_lt_of_cell? _ _ k2
    have hss : (w1.setCell ⟨b, 6, none⟩ (.slice (some ⟨g, o + 1, none⟩) 0 (cc - 1))).heap.size = w1.heap.size := by simp [World.setCell]
    have HI := Lib.hid (hI (.slice (some ⟨g, o + 1, none⟩) 0 (cc - 1)))
    have HS := Lib.hid (And.intro hs2 (And.intro f2 (And.intro hbl hss)))
    clear hr HR HA' c6 cf hI hs2 hbl hss
    go_wp2_with fail
    refine (clone_any HI.out hl).mono ?_
    rintro e w2 ⟨v', rfl, ho, hb⟩
    have HO := Lib.hid (And.intro ho hb)
    clear ho hb
    go_wp2
    obtain ⟨hs2, f2, hbl, hss⟩ := HS.out
    obtain ⟨ho, hb⟩ := HO.out
    refine leaves_cons (f := 37) (args := #[.pointer (some ⟨b, 0, none⟩), .bool false]) (by simp) (by simp [go_sem]) ?_
    refine (drop_rd (w := w2) ((hb.cell (p := ⟨b, 6, none⟩) (by rw [hss]; exact hbl)).trans hs2) ((World.frozen?_of_block (a := ⟨b, 6, none⟩) (hb.block b (by rw [hss]; exact hbl))).trans (by simpa using f2)) .returning).mono ?_
    rintro e u' w'' ⟨rfl, rfl, rfl⟩
    exact ⟨_, results_tmp3 rfl _ _ _, v', rfl, w1, w2, _, HRR.out, by rw [hss] at ho; exact ho, by rw [hss] at hb; exact hb, rfl⟩
end
end Go.Proofs.YtmcelldklmjlkaaDoor
