/- The reference: why, New, Read. -/
import Derived.Test.YtkamcjejongmbaaDoorCellLast
import Derived.Test.YtkamcjejongmbaaDoorIntsX
import Derived.Test.YtkamcjejongmbaaDoorWide
namespace Go.Proofs.YtkamcjejongmbaaDoor
open Go.RowKit

/-- A memory of the reference, as a value. -/
def mval (v : Value) (c : Nat) : Array Value := #[v, .int .i64 c]
theorem sizeM : (Tryd.prog.info? 45).map (·.size) = some 2 := by kernel_rfl
theorem why_any' (A : Option Addr) (n c : Nat) (N i v : Int) (w : World) : Calls Tryd.prog 37 #[.agg #[.slice A n c, .int .i64 N], .int .i64 i, .int .i64 v] w fun e w' => e = .returned (.int .i64 (why n i v)) ∧ Below w.heap.size w w' := by
  rcases why_cases n i v with ⟨e, h0, h1, h2, h3⟩ | ⟨e, h⟩ | ⟨e, h0, h1, h⟩
  · rw [e]
    clear e
    go_enter Tryd.func37, Tryd.ntmps37
    go_wp2
    go_ret
    exact ⟨rfl, below_alloc (Nat.le_refl _) _⟩
  · rw [e]
    clear e
    by_cases hi : i < 0
    · clear h
      go_enter Tryd.func37, Tryd.ntmps37
      go_wp2
      go_ret
      exact ⟨rfl, below_alloc (Nat.le_refl _) _⟩
    · have h2 : (n : Int) ≤ i := by omega
      clear h
      go_enter Tryd.func37, Tryd.ntmps37
      go_wp2
      go_ret
      exact ⟨rfl, below_alloc (Nat.le_refl _) _⟩
  · rw [e]
    clear e
    have h2 : ¬ i < 0 := by omega
    by_cases hv : v < 0
    · clear h
      go_enter Tryd.func37, Tryd.ntmps37
      go_wp2
      go_ret
      exact ⟨rfl, below_alloc (Nat.le_refl _) _⟩
    · have h3 : 2147483647 < v := by omega
      clear h
      go_enter Tryd.func37, Tryd.ntmps37
      go_wp2
      go_ret
      exact ⟨rfl, below_alloc (Nat.le_refl _) _⟩
set_option maxRecDepth 100000 in
theorem rread_any {w : World} {A : Option Addr} {c : Nat} {s : CS} (h : IntsIn w (.slice A s.l.length c) s.l) (hc : s.c < 4611686018427387904) (i : Int) :
    Calls Tryd.prog 25 #[.agg #[.slice A s.l.length c, .int .i64 s.c], .int .i64 i] w fun e w' =>
      e = .returned (.tuple #[.agg #[.slice A s.l.length c, .int .i64 (s.read i).1.c], .int .i64 (s.read i).2.1, .int .i64 (s.read i).2.2]) ∧ Below w.heap.size w w' := by
  obtain ⟨w2, hw2⟩ : ∃ w2, w2 = (w.alloc (.cells #[.slice A s.l.length c, .int .i64 s.c] 45)).alloc (.cells #[.slice none 0 0, .int .i64 0] 45) := ⟨_, rfl⟩
  have hb2 : Below w.heap.size w w2 := by rw [hw2]; exact (below_alloc (Nat.le_refl _) _).alloc (by simp) _
  have k1 : Blk w2 w.heap.size 45 #[.slice A s.l.length c, .int .i64 s.c] := by rw [hw2]; exact (Blk.new _ _ _).alloc _
  have k2 : Blk w2 (w.heap.size + 1) 45 #[.slice none 0 0, .int .i64 0] := by
    rw [hw2]; have := Blk.new (w.alloc (.cells #[.slice A s.l.length c, .int .i64 s.c] 45)) 45 #[.slice none 0 0, .int .i64 0]; simpa using this
  have HWY := Lib.hid (why_any' A s.l.length c s.c i 0 w2)
  have HW2 := Lib.hid hw2
  have HB2 := Lib.hid hb2
  have K1 := Lib.hid k1
  have K2 := Lib.hid k2
  have HI := Lib.hid h
  unfold CS.read CS.why
  have wc := wrap_succ s.c hc
  clear hw2 hb2 k1 k2 h
  rcases why_cases s.l.length i 0 with ⟨e, h0, h1, _⟩ | ⟨e, h⟩ | ⟨e, h0, h1, h⟩
  · rw [e] at HWY
    rw [if_pos e, val_lt s i h0 h1]
    clear e
    obtain ⟨j, rfl⟩ := Int.eq_ofNat_of_zero_le h0
    have hj : j < s.l.length := by omega
    simp only [Int.toNat_natCast]
    obtain ⟨N, hN⟩ : ∃ N : Int, N = ((s.c + 1 : Nat) : Int) := ⟨_, rfl⟩
    rw [← hN] at wc ⊢
    clear hN
    obtain ⟨_, _, e, _, hcell⟩ := HI.out
    injection e with e1 _ e3
    subst e1 e3
    obtain ⟨g, o, rfl, hce⟩ := hcell (by omega)
    have c0 := hce j hj
    have hg : g < w.heap.size := World.block_lt_of_cell? _ _ c0
    have j1 : (j : Int) < (s.l.length : Int) := by omega
    generalize s.l[j] = x at *
    clear hcell hce HI hj hc h1
    go_enter Tryd.func25, Tryd.ntmps25
    go_wp2_with fail
    rw [← HW2.out]
    refine HWY.out.mono ?_
    rintro r w3 ⟨rfl, hb⟩
    have q1 := K1.out.below hb K1.out.lt
    have q2 := K2.out.below hb K2.out.lt
    have HF := Lib.hid (HB2.out.trans (hb.mono HB2.out.size))
    have HF2 := Lib.hid (below_onl HF.out (onl_set (S := fun k => k = w.heap.size) (onl_refl _ w3) (p := ⟨w.heap.size, 1, none⟩) (.inl rfl) (.int .i64 N)) HF.out.size (fun k e => by omega))
    have p11 : w3.cell? ⟨w.heap.size, 1, none⟩ = some (.int .i64 s.c) := (q1.cell 1).trans rfl
    have f11 := q1.fr 1
    go_wp2_with fail
    clear wc p11 f11
    have z1 : Blk (w3.setCell ⟨w.heap.size, 1, none⟩ (.int .i64 N)) w.heap.size 45 #[.slice (some ⟨g, o, none⟩) s.l.length c, .int .i64 N] := q1.set 1 _
    have z2 : Blk (w3.setCell ⟨w.heap.size, 1, none⟩ (.int .i64 N)) (w.heap.size + 1) 45 #[.slice none 0 0, .int .i64 0] := q2.far (by simp) _
    have z3 : (w3.setCell ⟨w.heap.size, 1, none⟩ (.int .i64 N)).cell? ⟨g, o + j, none⟩ = some (.int .i64 x) := (cell_far (by simp; omega)).trans ((HF.out.cell (p := ⟨g, o + j, none⟩) hg).trans c0)
    generalize w3.setCell ⟨w.heap.size, 1, none⟩ (.int .i64 N) = w4 at *
    have j0 : (0 : Int) ≤ (j : Int) := by omega
    have p10 : w4.cell? ⟨w.heap.size, 0, none⟩ = some (.slice (some ⟨g, o, none⟩) s.l.length c) := (z1.cell 0).trans rfl
    have p11 : w4.cell? ⟨w.heap.size, 1, none⟩ = some (.int .i64 N) := (z1.cell 1).trans rfl
    have p20 : w4.cell? ⟨w.heap.size + 1, 0, none⟩ = some (.slice none 0 0) := (z2.cell 0).trans rfl
    have p21 : w4.cell? ⟨w.heap.size + 1, 1, none⟩ = some (.int .i64 0) := (z2.cell 1).trans rfl
    have f20 := z2.fr 0
    have f21 := z2.fr 1
    have HZ := Lib.hid (show Blk ((w4.drew.setCell ⟨w.heap.size + 1, 0, none⟩ (.slice (some ⟨g, o, none⟩) s.l.length c)).setCell ⟨w.heap.size + 1, 1, none⟩ (.int .i64 N)) (w.heap.size + 1) 45 #[.slice (some ⟨g, o, none⟩) s.l.length c, .int .i64 N] from (z2.drew.set 0 _).set 1 _)
    have HFZ := Lib.hid (show Below w.heap.size w ((w4.drew.setCell ⟨w.heap.size + 1, 0, none⟩ (.slice (some ⟨g, o, none⟩) s.l.length c)).setCell ⟨w.heap.size + 1, 1, none⟩ (.int .i64 N)) from
      below_onl HF2.out.drew (onl_set (S := fun k => k = w.heap.size + 1) (onl_set (S := fun k => k = w.heap.size + 1) (onl_refl _ w4.drew) (p := ⟨w.heap.size + 1, 0, none⟩) (.inl rfl) _) (p := ⟨w.heap.size + 1, 1, none⟩) (.inl rfl) _) HF2.out.size (fun k e => by omega))
    clear hb HWY K1 K2 HB2 HW2 q1 q2 HF HF2 z1 z2 c0
    have g4 : w4.frozen? ⟨w.heap.size + 1, 0, none⟩ = false := f20
    go_region_law (fail)
    all_goals go_wp2
    all_goals exact bodyPost_ret (res_c3 rfl _ rfl HZ.out Tryd.underlying45 rfl sizeM) rfl ⟨rfl, HFZ.out⟩
  all_goals
    rw [e] at HWY
    rw [if_neg (by rw [e]; decide), e]
    clear e h
    go_enter Tryd.func25, Tryd.ntmps25
    go_wp2_with fail
    rw [← HW2.out]
    refine HWY.out.mono ?_
    rintro r w3 ⟨rfl, hb⟩
    have q1 := K1.out.below hb K1.out.lt
    have q2 := K2.out.below hb K2.out.lt
    have p10 : w3.cell? ⟨w.heap.size, 0, none⟩ = some (.slice A s.l.length c) := (q1.cell 0).trans rfl
    have p11 : w3.cell? ⟨w.heap.size, 1, none⟩ = some (.int .i64 s.c) := (q1.cell 1).trans rfl
    have p20 : w3.cell? ⟨w.heap.size + 1, 0, none⟩ = some (.slice none 0 0) := (q2.cell 0).trans rfl
    have p21 : w3.cell? ⟨w.heap.size + 1, 1, none⟩ = some (.int .i64 0) := (q2.cell 1).trans rfl
    have f20 := q2.fr 0
    have f21 := q2.fr 1
    have HF := Lib.hid (HB2.out.trans (hb.mono HB2.out.size))
    clear hb HWY HI K1 K2 HB2 HW2
    have HZ := Lib.hid (show Blk ((w3.setCell ⟨w.heap.size + 1, 0, none⟩ (.slice A s.l.length c)).setCell ⟨w.heap.size + 1, 1, none⟩ (.int .i64 s.c)) (w.heap.size + 1) 45 #[.slice A s.l.length c, .int .i64 s.c] from (q2.set 0 _).set 1 _)
    have HFZ := Lib.hid (show Below w.heap.size w ((w3.setCell ⟨w.heap.size + 1, 0, none⟩ (.slice A s.l.length c)).setCell ⟨w.heap.size + 1, 1, none⟩ (.int .i64 s.c)) from
      below_onl HF.out (onl_set (S := fun k => k = w.heap.size + 1) (onl_set (S := fun k => k = w.heap.size + 1) (onl_refl _ w3) (p := ⟨w.heap.size + 1, 0, none⟩) (.inl rfl) _) (p := ⟨w.heap.size + 1, 1, none⟩) (.inl rfl) _) HF.out.size (fun k e => by omega))
    clear q1 q2 HF
    go_wp2
    exact bodyPost_ret (res_c3 rfl _ rfl HZ.out Tryd.underlying45 rfl sizeM) rfl ⟨rfl, HFZ.out⟩
end Go.Proofs.YtkamcjejongmbaaDoor
