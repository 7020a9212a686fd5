/- The reference: Write, New, Reset; cell.New of any number. -/
import Derived.Test.YtkamcjejongmbaaDoorCellS
namespace Go.Proofs.YtkamcjejongmbaaDoor
open Go.RowKit

set_option maxRecDepth 100000 in
theorem rwrite_rm {B : Nat} {w : World} {v0 : Value} {s : CS} (h : RM B w v0 s) (hBw : B ≤ w.heap.size) (hc : s.c < 4611686018427387904) (hle : s.l.length ≤ 4096) (i v : Int) :
    Calls Tryd.prog 26 #[v0, .int .i64 i, .int .i64 v] w fun e w' =>
      ∃ v', e = .returned (.tuple #[v', .int .i64 (s.swap i v).2.2]) ∧ RM B w' v' (s.swap i v).1 ∧ Below w.heap.size w w' := by
  obtain ⟨A, c, rfl, h, ht⟩ := h
  obtain ⟨w2, hw2⟩ : ∃ w2, w2 = (w.alloc (.cells #[.slice A s.l.length c, .int .i64 s.c] 45)).alloc (.cells #[.slice none 0 0, .int .i64 0] 45) := ⟨_, rfl⟩
  have hb2 : Below w.heap.size w w2 := by rw [hw2]; exact (below_alloc (Nat.le_refl _) _).alloc (by simp) _
  have k2 : Blk w2 (w.heap.size + 1) 45 #[.slice none 0 0, .int .i64 0] := by
    rw [hw2]; have := Blk.new (w.alloc (.cells #[.slice A s.l.length c, .int .i64 s.c] 45)) 45 #[.slice none 0 0, .int .i64 0]; simpa using this
  have HWY := Lib.hid (rswap_rm (w := w2) ⟨A, c, rfl, h.below hb2, ht.below hb2⟩ (Nat.le_trans hBw hb2.size) hc hle i v)
  have HW2 := Lib.hid hw2
  have HB2 := Lib.hid hb2
  have K2 := Lib.hid k2
  clear hw2 hb2 k2 h ht
  generalize (s.swap i v).1 = s' at *
  generalize (s.swap i v).2.2 = e at *
  generalize (s.swap i v).2.1 = y at *
  go_enter Tryd.func26, Tryd.ntmps26
  go_wp2_with fail
  rw [← HW2.out]
  refine HWY.out.mono ?_
  rintro r w3 ⟨v', rfl, ⟨A', c', rfl, hI, hT⟩, hb⟩
  have q2 := (K2.out.below hb K2.out.lt).alloc (.cells #[.slice A' s'.l.length c', .int .i64 s'.c] 45)
  have HI := Lib.hid hI
  have K3 := Lib.hid (K2.out.below hb K2.out.lt)
  have HIO := Lib.hid (show ∀ W', Only (fun k => k = w.heap.size + 1) w3 W' → IntsIn W' (.slice A' s'.l.length c') s'.l ∧ RowT B W' A' s'.l.length from fun W' hO => ints_far hI hT (K2.out.below hb K2.out.lt) (by decide) hO)
  have l2 := (K2.out.below hb K2.out.lt).lt
  have n2 : w3.heap.size ≠ w.heap.size + 1 := by omega
  have HF := Lib.hid (HB2.out.trans (hb.mono HB2.out.size))
  clear hb HWY K2 HB2 HW2 hI hT
  have p20 : (w3.alloc (.cells #[.slice A' s'.l.length c', .int .i64 s'.c] 45)).cell? ⟨w.heap.size + 1, 0, none⟩ = some (.slice none 0 0) := (q2.cell 0).trans rfl
  have p21 : (w3.alloc (.cells #[.slice A' s'.l.length c', .int .i64 s'.c] 45)).cell? ⟨w.heap.size + 1, 1, none⟩ = some (.int .i64 0) := (q2.cell 1).trans rfl
  have f20 := q2.fr 0
  have f21 := q2.fr 1
  have q3 := K3.out
  have r20 : w3.cell? ⟨w.heap.size + 1, 0, none⟩ = some (.slice none 0 0) := (q3.cell 0).trans rfl
  have r21 : w3.cell? ⟨w.heap.size + 1, 1, none⟩ = some (.int .i64 0) := (q3.cell 1).trans rfl
  have g20 := q3.fr 0
  have g21 := q3.fr 1
  have n3 : w.heap.size + 1 ≠ w3.heap.size := by omega
  have hO : Only (fun k => k = w.heap.size + 1) w3 ((w3.setCell ⟨w.heap.size + 1, 0, none⟩ (.slice A' s'.l.length c')).setCell ⟨w.heap.size + 1, 1, none⟩ (.int .i64 s'.c)) :=
    onl_set (S := fun k => k = w.heap.size + 1) (onl_set (S := fun k => k = w.heap.size + 1) (onl_refl _ _) (p := ⟨w.heap.size + 1, 0, none⟩) (.inl rfl) _) (p := ⟨w.heap.size + 1, 1, none⟩) (.inl rfl) _
  have HZ := Lib.hid (show Blk (((w3.setCell ⟨w.heap.size + 1, 0, none⟩ (.slice A' s'.l.length c')).setCell ⟨w.heap.size + 1, 1, none⟩ (.int .i64 s'.c)).alloc (.cells #[.slice A' s'.l.length c', .int .i64 s'.c] 45)) (w.heap.size + 1) 45 #[.slice A' s'.l.length c', .int .i64 s'.c] from ((q3.set 0 _).set 1 _).alloc _)
  have hB := below_onl HF.out hO HF.out.size (fun k e => by omega)
  have HFZ := Lib.hid (hB.alloc hB.size (.cells #[.slice A' s'.l.length c', .int .i64 s'.c] 45))
  have HIN := Lib.hid (show IntsIn (((w3.setCell ⟨w.heap.size + 1, 0, none⟩ (.slice A' s'.l.length c')).setCell ⟨w.heap.size + 1, 1, none⟩ (.int .i64 s'.c)).alloc (.cells #[.slice A' s'.l.length c', .int .i64 s'.c] 45)) (.slice A' s'.l.length c') s'.l from (HIO.out _ hO).1.below (below_alloc (Nat.le_refl _) _))
  have HTY := Lib.hid ((HIO.out _ hO).2.below (below_alloc (Nat.le_refl _) (.cells #[.slice A' s'.l.length c', .int .i64 s'.c] 45)))
  clear q2 q3 hO hB K3 HIO HI HF
  go_wp2
  refine bodyPost_ret (res_c2 rfl _ rfl HZ.out Tryd.underlying45 rfl sizeM) rfl ⟨_, rfl, ⟨_, c', rfl, HIN.out, HTY.out⟩, HFZ.out⟩
set_option maxRecDepth 100000 in
/-- New's argument, whatever it is. -/
theorem rnew_int (x : Int) (n : Nat) (w : World) (hn : n ≤ 4096) (hx : min (max x 0) 4096 = (n : Int)) :
    Calls Tryd.prog 23 #[.int .i64 x] w fun e w' => ∃ v, e = .returned v ∧ RM w.heap.size w' v ⟨List.replicate n 0, 0⟩ ∧ Below w.heap.size w w' := by
  have hmk := fun W => run_make_row' (P := Tryd.prog) 33 3 (.int .i64 0) 8 Tryd.underlying33 infoInt rfl .i64 .i64 n (by omega) (by omega) W
  have HZ := Lib.hid (show Blk ((w.alloc (.cells #[.slice (some ⟨w.heap.size + 1, 0, none⟩) n n, .int .i64 0] 45)).alloc (.cells (madeCells #[.int .i64 0] n) 3)) w.heap.size 45 #[.slice (some ⟨w.heap.size + 1, 0, none⟩) n n, .int .i64 0] from (Blk.new _ _ _).alloc _)
  have HY := Lib.hid (show Blk ((w.alloc (.cells #[.slice (some ⟨w.heap.size + 1, 0, none⟩) n n, .int .i64 0] 45)).alloc (.cells (madeCells #[.int .i64 0] n) 3)) (w.heap.size + 1) 3 (nums (List.replicate n 0)).toArray from by
    have := Blk.new (w.alloc (.cells #[.slice (some ⟨w.heap.size + 1, 0, none⟩) n n, .int .i64 0] 45)) 3 (madeCells #[.int .i64 0] n); rw [nums_zeros] at this ⊢; simpa using this)
  have HF := Lib.hid ((below_alloc (Nat.le_refl w.heap.size) (.cells #[.slice (some ⟨w.heap.size + 1, 0, none⟩) n n, .int .i64 0] 45)).alloc (by simp) (.cells (madeCells #[.int .i64 0] n) 3))
  clear hn
  go_enter Tryd.func23, Tryd.ntmps23
  go_wp2
  refine bodyPost_ret (res_c1 rfl _ rfl HZ.out Tryd.underlying45 rfl sizeM) rfl ⟨_, rfl, ⟨some ⟨w.heap.size + 1, 0, none⟩, n, by rw [List.length_replicate]; rfl, ⟨_, _, rfl, by rw [List.length_replicate]; exact Nat.le_refl _, fun _ => ⟨_, 0, rfl, fun i hi => by rw [Nat.zero_add, HY.out.cell, List.getElem?_toArray]; exact nums_get _ i hi⟩⟩, fun _ => ⟨_, 0, _, rfl, HY.out, Nat.le_succ _⟩⟩, HF.out⟩
set_option maxRecDepth 100000 in
/-- A new memory of any number of cells. -/
theorem mnew_int (x : Int) (n : Nat) (w : World) (hn : n ≤ 4096) (hx : min (max x 0) 4096 = (n : Int)) :
    Calls Tryd.prog 14 #[.int .i64 x] w fun e w' => e = .returned (.pointer (some ⟨w.heap.size + 1, 0, none⟩)) ∧ MemAt w' (w.heap.size + 1) w.heap.size (List.replicate n 0) 0 ∧ Below w.heap.size w w' := by
  have hmk := fun W => run_make_row' (P := Tryd.prog) 33 3 (.int .i64 0) 8 Tryd.underlying33 infoInt rfl .i64 .i64 n (by omega) (by omega) W
  have HM := Lib.hid (show MemAt ((w.alloc (.cells (madeCells #[.int .i64 0] n) 3)).alloc (.cells #[.slice (some ⟨w.heap.size, 0, none⟩) n n, .int .i64 0] 65)) (w.heap.size + 1) w.heap.size (List.replicate n 0) 0 from
    ⟨by rw [List.length_replicate]; have := Blk.new (w.alloc (.cells (madeCells #[.int .i64 0] n) 3)) 65 #[.slice (some ⟨w.heap.size, 0, none⟩) n n, .int .i64 0]; simpa using this,
      by have := (Blk.new w 3 (madeCells #[.int .i64 0] n)).alloc (.cells #[.slice (some ⟨w.heap.size, 0, none⟩) n n, .int .i64 0] 65); rw [nums_zeros] at this ⊢; exact this,
      by rw [List.length_replicate]; exact hn⟩)
  have HB := Lib.hid ((below_alloc (w := w) (Nat.le_refl _) (.cells (madeCells #[.int .i64 0] n) 3)).alloc (by simp) (.cells #[.slice (some ⟨w.heap.size, 0, none⟩) n n, .int .i64 0] 65))
  clear hn
  go_enter Tryd.func14, Tryd.ntmps14
  go_wp2
  go_ret
  exact ⟨rfl, HM.out, HB.out⟩
end Go.Proofs.YtkamcjejongmbaaDoor
