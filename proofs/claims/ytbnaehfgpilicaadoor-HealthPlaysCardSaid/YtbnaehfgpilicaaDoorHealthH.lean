/- The reference's line of an event. -/
import Derived.Test.YtbnaehfgpilicaaDoorHealthG
namespace Go.Proofs.YtbnaehfgpilicaaDoor
open Go.RowKit

theorem bytes_ext {a b : ByteArray} (h : a.data.toList = b.data.toList) : a = b := by
  cases a; cases b; congr; exact Array.toList_inj.1 h
theorem line_sum (e : Ev) : numB e.t ++ ⟨#[32]⟩ ++ wordB e.k ++ ⟨#[32]⟩ ++ numB e.p ++ ⟨#[32]⟩ ++ numB e.c ++ ⟨#[32]⟩ ++ numB e.n = ⟨(lineL e).toArray⟩ := by
  apply bytes_ext
  simp only [lineL, fiveB, List.map_cons, List.map_nil, Lib.join_cons, Lib.joinTail, List.flatten_cons, List.flatten_nil, ByteArray.data_append, Array.toList_append]
  simp
theorem num_size (n : Int) (h0 : -9223372036854775808 ≤ n) (h1 : n ≤ 9223372036854775807) : (numB n).size ≤ 21 := by rw [size_list]; exact num_len n h0 h1
theorem word_size (k : Int) : (wordB k).size ≤ 8 := by rw [size_list]; exact word_len k
theorem word_ne (k : Int) (h : okK k) : (wordB k).toList.isEmpty = false := by
  unfold okK at h
  rcases (show k = 0 ∨ k = 1 ∨ k = 2 ∨ k = 3 ∨ k = 4 ∨ k = 5 by omega) with rfl | rfl | rfl | rfl | rfl | rfl <;> decide +kernel
theorem digits_q (n : Int) (h0 : -9223372036854775808 ≤ n) (h1 : n ≤ 9223372036854775807) (w : World) :
    Calls Tryd.prog 31 #[.int .i64 n] w fun e w' => e = .returned (.string (numB n)) ∧ w' = w :=
  (digits_any n h0 h1 w).mono fun _ _ ⟨h, k⟩ => ⟨h, k.symm⟩
set_option maxRecDepth 100000 in
set_option maxHeartbeats 3200000 in
theorem rline_yes {w : World} (e : Ev) (hk : okK e.k) (hf : evFits e) :
    Calls Tryd.prog 11 #[.agg e.cells] w fun r w' => r = .returned (.string ⟨(lineL e).toArray⟩) ∧ Below w.heap.size w w' := by
  obtain ⟨⟨a0, a1⟩, ⟨b0, b1⟩, ⟨c0, c1⟩, ⟨d0, d1⟩⟩ := hf
  have HL := Lib.hid (line_sum e)
  have s1 := num_size e.t a0 a1
  have s2 := num_size e.p b0 b1
  have s3 := num_size e.c c0 c1
  have s4 := num_size e.n d0 d1
  have s5 := word_size e.k
  have hne := word_ne e.k hk
  have HW := Lib.hid (fun W => rword_any e.k W)
  generalize (lineL e).toArray = LL at *
  generalize wordB e.k = t5 at *
  clear hk
  unfold Ev.cells
  go_enter Tryd.func11, Tryd.ntmps11
  go_wp2_with fail
  refine (HW.out _).mono ?_
  rintro r w2 ⟨rfl, hb⟩
  have x1 : w2.cell? ⟨w.heap.size, 1, none⟩ = some (.int .i64 e.t) := (hb.cell (p := ⟨w.heap.size, 1, none⟩) (by simp)).trans (by simp [World.cell?_alloc_at])
  have x2 : w2.cell? ⟨w.heap.size, 2, none⟩ = some (.int .i64 e.p) := (hb.cell (p := ⟨w.heap.size, 2, none⟩) (by simp)).trans (by simp [World.cell?_alloc_at])
  have x3 : w2.cell? ⟨w.heap.size, 3, none⟩ = some (.int .i64 e.c) := (hb.cell (p := ⟨w.heap.size, 3, none⟩) (by simp)).trans (by simp [World.cell?_alloc_at])
  have x4 : w2.cell? ⟨w.heap.size, 4, none⟩ = some (.int .i64 e.n) := (hb.cell (p := ⟨w.heap.size, 4, none⟩) (by simp)).trans (by simp [World.cell?_alloc_at])
  have HB := Lib.hid ((below_alloc (Nat.le_refl _) _).trans (hb.mono (by simp)))
  clear hb HW
  go_wp2_with fail
  go_quiet ((go_at_call 31; exact Calls.quiet_of_same (digits_q _ (by assumption) (by assumption) _)))
  go_wp2
  go_ret
  exact ⟨congrArg (fun b => Ending.returned (.string b)) HL.out, below_drewN HB.out _⟩
theorem rline_no {w : World} (e : Ev) (hk : ¬ okK e.k) :
    Calls Tryd.prog 11 #[.agg e.cells] w fun r w' => r = .returned (.string ⟨#[]⟩) ∧ Below w.heap.size w w' := by
  have HW := Lib.hid (fun W => rword_any e.k W)
  rw [wordB_no e.k hk] at HW
  clear hk
  unfold Ev.cells
  go_enter Tryd.func11, Tryd.ntmps11
  go_wp2_with fail
  refine (HW.out _).mono ?_
  rintro r w2 ⟨rfl, hb⟩
  have HB := Lib.hid ((below_alloc (Nat.le_refl _) _).trans (hb.mono (by simp)))
  clear hb HW
  go_wp2_with fail
  go_ret
  exact ⟨rfl, HB.out⟩
end Go.Proofs.YtbnaehfgpilicaaDoor
