/- Taking and giving. -/
import Derived.Test.YtjmhdkcnllnekaaPool
namespace Go.Proofs.Ytjmhdkcnllnekaa
open Go.RowKit
attribute [local go_sem ↓] eq56 neq56
/-! ### Taking -/
def PS.set (p : PS) (i : Nat) (t : Bool) (o : Int) : PS := { p with tk := fun j => if j = i then t else p.tk j, ow := fun j => if j = i then o else p.ow j }
def PS.up (p : PS) (i : Nat) : PS := { p with tu := fun j => if j = i then p.tu j + 1 else p.tu j }
theorem PoolAt.set2 {w : World} {b : Nat} {p : PS} (h : PoolAt w b p) {i : Nat} (hi : i < 64) (t : Bool) (o : Int) :
    PoolAt ((w.setCell ⟨b, 1 + i * 2, none⟩ (.bool t)).setCell ⟨b, 1 + i * 2 + 1, none⟩ (.int .i64 o)) b (p.set i t o) := by
  refine ⟨h.le, ?_, fun j hj => ?_, fun j hj => ?_, fun j hj => ?_, fun o => ?_⟩
  · rw [cell_off (by omega), cell_off (by omega)]; exact h.n
  · rw [cell_off (by omega)]
    by_cases e : j = i
    · subst e; rw [World.cell?_setCell_same _ _ _ (h.tk j hj)]; simp [PS.set]
    · rw [cell_off (by omega), h.tk j hj]; simp [PS.set, e]
  · by_cases e : j = i
    · subst e
      rw [World.cell?_setCell_same _ _ _ (u := .int .i64 (p.ow j)) (by rw [cell_off (by omega)]; exact h.ow j hj)]; simp [PS.set]
    · rw [cell_off (by omega), cell_off (by omega), h.ow j hj]; simp [PS.set, e]
  · rw [cell_off (by omega), cell_off (by omega)]; exact h.tu j hj
  · simp [h.fr]
theorem PoolAt.up1 {w : World} {b : Nat} {p : PS} (h : PoolAt w b p) {i : Nat} (hi : i < 64) : PoolAt (w.setCell ⟨b, 129 + i, none⟩ (.int .i64 (p.tu i + 1))) b (p.up i) := by
  refine ⟨h.le, ?_, fun j hj => ?_, fun j hj => ?_, fun j hj => ?_, fun o => ?_⟩
  · rw [cell_off (by omega)]; exact h.n
  · rw [cell_off (by omega)]; exact h.tk j hj
  · rw [cell_off (by omega)]; exact h.ow j hj
  · by_cases e : j = i
    · subst e; rw [World.cell?_setCell_same _ _ _ (h.tu j hj)]; simp [PS.up]
    · rw [cell_off (by omega), h.tu j hj]; simp [PS.up, e]
  · simp [h.fr]
set_option maxHeartbeats 800000 in
theorem take_some (b : Nat) (p : PS) (o : Int) (w : World) (h : PoolAt w b p) (i : Nat) (rest : List Nat) (hf : findTo p false 0 p.n = i :: rest) (hu : 0 ≤ p.tu i ∧ p.tu i ≤ 1000000) :
    Calls Try.prog 12 #[.pointer (some ⟨b, 0, none⟩), .int .i64 o] w fun e w' => e = .returned (.tuple #[.int .i64 i, .int .i64 0]) ∧ PoolAt w' b ((p.set i true o).up i) ∧ w.grownBy w' (some b) := by
  have hF := Lib.hid hf
  clear hf
  have hlt := h.lt
  have hH := Lib.hid h
  have hi : i < p.n := findTo_lt p false 0 p.n i (by rw [hF.out]; simp)
  have hl := h.le
  clear h
  go_enter Try.func12, Try.ntmps12
  go_wp2_with fail
  refine (find_any b p false 0 w hH.out).mono ?_
  rintro e w1 ⟨v, rfl, hown, hbel⟩
  rw [hF.out] at hown
  obtain ⟨g, cap, rfl, hg1, hg2, hnc, hc, hfz⟩ := own_pos hown (by simp)
  have c0 : w1.cell? ⟨g, 0, none⟩ = some (.int .i64 i) := (hc 0 (by simp)).trans rfl
  have hP := hH.out.below hbel hlt
  have h1 := hP.tk i (by omega)
  have h2 := hP.ow i (by omega)
  have h3 := hP.tu i (by omega)
  have f1 := hP.fr (1 + i * 2)
  have f2 := hP.fr (1 + i * 2 + 1)
  have f3 := hP.fr (129 + i)
  have hB := Lib.hid hbel
  have hPH := Lib.hid hP
  have i64 : (i : Int) < 64 := by omega
  have hbg : b < g := by omega
  clear hown hP hbel hc hfz
  go_wp2
  go_still_tail 9, (by kernel_rfl)
  change wpList _ _ _ _ _ w1.drew
  go_wp2
  have hP2 := (hPH.out.set2 (i := i) (by omega) true o).keep (w' := ((w1.setCell ⟨b, 1 + i * 2, none⟩ (.bool true)).setCell ⟨b, 1 + i * 2 + 1, none⟩ (.int .i64 o)).drew) rfl
  have c1 : ((w1.setCell ⟨b, 1 + i * 2, none⟩ (.bool true)).setCell ⟨b, 1 + i * 2 + 1, none⟩ (.int .i64 o)).drew.cell? ⟨g, 0, none⟩ = some (.int .i64 i) := by
    show ((w1.setCell ⟨b, 1 + i * 2, none⟩ (.bool true)).setCell ⟨b, 1 + i * 2 + 1, none⟩ (.int .i64 o)).cell? ⟨g, 0, none⟩ = some (.int .i64 i)
    rw [cell_far (by simp; omega), cell_far (by simp; omega)]; exact c0
  have hG := only_drew (only_set (p := ⟨b, 1 + i * 2 + 1, none⟩) (only_set (p := ⟨b, 1 + i * 2, none⟩) (only_of_below hB.out (some b)) (.inl rfl) (.bool true)) (.inl rfl) (.int .i64 o))
  generalize ((w1.setCell ⟨b, 1 + i * 2, none⟩ (.bool true)).setCell ⟨b, 1 + i * 2 + 1, none⟩ (.int .i64 o)).drew = w2 at hP2 c1 hG ⊢
  have h4 := hP2.tu i (by omega)
  have f4 := hP2.fr (129 + i)
  have e4 : (p.set i true o).tu i = p.tu i := rfl
  rw [e4] at h4
  have HP2 := Lib.hid hP2
  have HG := Lib.hid hG
  clear h1 h2 h3 f1 f2 f3 c0 hPH hP2 hG e4
  obtain ⟨u1, u2⟩ := hu
  go_still_tail 12, (by kernel_rfl)
  change wpList _ _ _ _ _ w2.drew
  have c2 : (w2.setCell ⟨b, 129 + i, none⟩ (.int .i64 (p.tu i + 1))).cell? ⟨g, 0, none⟩ = some (.int .i64 i) := by
    rw [cell_far (by simp; omega)]; exact c1
  go_wp2
  go_ret2
  exact ⟨rfl, (HP2.out.up1 (by omega)).keep rfl, only_drew (only_set HG.out (.inl rfl) _)⟩
theorem take_none (b : Nat) (p : PS) (o : Int) (w : World) (h : PoolAt w b p) (hf : findTo p false 0 p.n = []) :
    Calls Try.prog 12 #[.pointer (some ⟨b, 0, none⟩), .int .i64 o] w fun e w' => e = .returned (.tuple #[.int .i64 (-1), .int .i64 10]) ∧ Below w.heap.size w w' := by
  have hF := Lib.hid hf
  clear hf
  have hH := Lib.hid h
  clear h
  go_enter Try.func12, Try.ntmps12
  go_wp2_with fail
  refine (find_any b p false 0 w hH.out).mono ?_
  rintro e w1 ⟨v, rfl, hown, hbel⟩
  rw [hF.out] at hown
  obtain ⟨A, c, rfl⟩ := own_form hown
  have HB := Lib.hid hbel
  clear hown hbel
  go_wp2
  go_ret2
  exact ⟨rfl, HB.out⟩
theorem take_nil (o : Int) (w : World) :
    Calls Try.prog 12 #[.pointer none, .int .i64 o] w fun e w' => e = .returned (.tuple #[.int .i64 (-1), .int .i64 10]) ∧ Below w.heap.size w w' := by
  go_enter Try.func12, Try.ntmps12
  go_wp2_with fail
  refine (find_nil false 0 w).mono ?_
  rintro e w1 ⟨rfl, hbel⟩
  have HB := Lib.hid hbel
  clear hbel
  go_wp2
  go_ret2
  exact ⟨rfl, HB.out⟩
/-! ### Giving -/
theorem give_range (b : Nat) (p : PS) (i o : Int) (w : World) (h : PoolAt w b p) (hi : i < 0 ∨ p.n ≤ i) :
    Calls Try.prog 15 #[.pointer (some ⟨b, 0, none⟩), .int .i64 i, .int .i64 o] w fun e w' => e = .returned (.int .i64 7) ∧ w = w' := by
  have HA := Lib.hid (is_no b p i w h hi)
  clear h hi
  go_enter Try.func15, Try.ntmps15
  go_wp2_with (go_at_call 29; refine (HA.out).mono ?_; rintro e w' ⟨rfl, rfl⟩)
  go_ret
  exact ⟨rfl, rfl⟩
theorem give_nil (i o : Int) (w : World) :
    Calls Try.prog 15 #[.pointer none, .int .i64 i, .int .i64 o] w fun e w' => e = .returned (.int .i64 7) ∧ w = w' := by
  go_enter Try.func15, Try.ntmps15
  go_wp2_with (go_at_call 29; refine (is_nil _ _).mono ?_; rintro e w' ⟨rfl, rfl⟩)
  go_ret
  exact ⟨rfl, rfl⟩
theorem give_empty (b : Nat) (p : PS) (i : Nat) (o : Int) (w : World) (h : PoolAt w b p) (hi : i < p.n) (ht : p.tk i = false) :
    Calls Try.prog 15 #[.pointer (some ⟨b, 0, none⟩), .int .i64 i, .int .i64 o] w fun e w' => e = .returned (.int .i64 11) ∧ w = w' := by
  have HA := Lib.hid (is_yes b p i w h hi)
  have hl := h.le
  have h1 := h.tk i (by omega)
  rw [ht] at h1
  have i64 : (i : Int) < 64 := by omega
  clear h ht
  go_enter Try.func15, Try.ntmps15
  go_wp2_with (go_at_call 29; refine (HA.out).mono ?_; rintro e w' ⟨rfl, rfl⟩)
  go_ret
  exact ⟨rfl, rfl⟩
theorem give_other (b : Nat) (p : PS) (i : Nat) (o : Int) (w : World) (h : PoolAt w b p) (hi : i < p.n) (ht : p.tk i = true) (ho : p.ow i ≠ o) :
    Calls Try.prog 15 #[.pointer (some ⟨b, 0, none⟩), .int .i64 i, .int .i64 o] w fun e w' => e = .returned (.int .i64 2) ∧ w = w' := by
  have HA := Lib.hid (is_yes b p i w h hi)
  have hl := h.le
  have h1 := h.tk i (by omega)
  have h2 := h.ow i (by omega)
  rw [ht] at h1
  have i64 : (i : Int) < 64 := by omega
  have hq : (p.ow i == o) = false := by simpa using ho
  clear h ht ho
  go_enter Try.func15, Try.ntmps15
  go_wp2_with (go_at_call 29; refine (HA.out).mono ?_; rintro e w' ⟨rfl, rfl⟩)
  go_ret
  exact ⟨rfl, rfl⟩
theorem give_ok (b : Nat) (p : PS) (i : Nat) (o : Int) (w : World) (h : PoolAt w b p) (hi : i < p.n) (ht : p.tk i = true) (ho : p.ow i = o) :
    Calls Try.prog 15 #[.pointer (some ⟨b, 0, none⟩), .int .i64 i, .int .i64 o] w fun e w' => e = .returned (.int .i64 0) ∧ PoolAt w' b (p.set i false 0) ∧ w.grownBy w' (some b) := by
  have HA := Lib.hid (is_yes b p i w h hi)
  have hl := h.le
  have h1 := h.tk i (by omega)
  have h2 := h.ow i (by omega)
  have f1 := h.fr (1 + i * 2)
  have f2 := h.fr (1 + i * 2 + 1)
  rw [ht] at h1
  rw [ho] at h2
  have i64 : (i : Int) < 64 := by omega
  have hH := Lib.hid h
  clear h ht ho
  have HP := Lib.hid (hH.out.set2 (i := i) (by omega) false 0)
  have HG := Lib.hid (only_set (p := ⟨b, 1 + i * 2 + 1, none⟩) (only_set (p := ⟨b, 1 + i * 2, none⟩) (World.grownBy.refl w (some b)) (.inl rfl) (.bool false)) (.inl rfl) (.int .i64 0))
  go_enter Try.func15, Try.ntmps15
  go_wp2_with (go_at_call 29; refine (HA.out).mono ?_; rintro e w' ⟨rfl, rfl⟩)
  go_ret
  exact ⟨rfl, HP.out, HG.out⟩
end Go.Proofs.Ytjmhdkcnllnekaa
