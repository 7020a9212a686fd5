/- The reference: Swap, Write, New. -/
import Derived.Test.YtkamcjejongmbaaDoorCellR
namespace Go.Proofs.YtkamcjejongmbaaDoor
open Go.RowKit

/-- A memory of the reference, as a value. -/
def RowT (B : Nat) (w : World) (A : Option Addr) (n : Nat) : Prop := 0 < n → ∃ g o cs, A = some ⟨g, o, none⟩ ∧ Blk w g 3 cs ∧ B ≤ g
theorem RowT.below {B : Nat} {w w' : World} {A : Option Addr} {n : Nat} (h : RowT B w A n) (hb : Below w.heap.size w w') : RowT B w' A n := fun hp => by
  obtain ⟨g, o, cs, e, k, hk⟩ := h hp
  exact ⟨g, o, cs, e, k.below hb k.lt, hk⟩
def RM (B : Nat) (w : World) (v : Value) (s : CS) : Prop := ∃ A c, v = .agg #[.slice A s.l.length c, .int .i64 s.c] ∧ IntsIn w (.slice A s.l.length c) s.l ∧ RowT B w A s.l.length
/-- A row of ints stays, whatever happens to a block of another type. -/
theorem ints_far {B : Nat} {w w' : World} {A : Option Addr} {n c x : Nat} {l : List Int} {cs : Array Value} {t : TypeId} (h : IntsIn w (.slice A n c) l) (hr : RowT B w A l.length) (hx : Blk w x t cs) (ht : t ≠ 3) (hO : Only (fun k => k = x) w w') : IntsIn w' (.slice A n c) l ∧ RowT B w' A l.length := by
  obtain ⟨A', c', e, hl, k⟩ := h
  injection e with e1 e2 e3
  subst e1 e2 e3
  refine ⟨⟨A, c, rfl, hl, fun hp => ?_⟩, fun hp => ?_⟩
  · obtain ⟨g, o, rfl, d⟩ := k hp
    obtain ⟨g', o', cs', e, hB, _⟩ := hr hp
    injection e with e
    injection e with e1 e2 _
    subst e1 e2
    exact ⟨g, o, rfl, fun i hi => cell_onl (d i hi) hO (fun e => hB.ne hx (Ne.symm ht) e)⟩
  · obtain ⟨g', o', cs', e, hB, hk⟩ := hr hp
    exact ⟨g', o', cs', e, blk_onl hB hO (fun e => hB.ne hx (Ne.symm ht) e), hk⟩
theorem swap_bad_eq2 {s : CS} {i v : Int} (h : s.why i v ≠ 0) : s.swap i v = (s, 0, s.why i v) := by unfold CS.swap; rw [if_neg h]
theorem RM.below {B : Nat} {w w' : World} {v : Value} {s : CS} (h : RM B w v s) (hb : Below w.heap.size w w') : RM B w' v s := by
  obtain ⟨A, c, e, k, t⟩ := h
  exact ⟨A, c, e, k.below hb, t.below hb⟩
theorem RM.drewN {B : Nat} {w : World} {v : Value} {s : CS} (h : RM B w v s) (n : Nat) : RM B (w.drewN n) v s := h.below (below_drewN' w n)
theorem rread_rm {B : Nat} {w : World} {v : Value} {s : CS} (h : RM B w v s) (hc : s.c < 4611686018427387904) (i : Int) :
    Calls Tryd.prog 25 #[v, .int .i64 i] w fun e w' =>
      ∃ v', e = .returned (.tuple #[v', .int .i64 (s.read i).2.1, .int .i64 (s.read i).2.2]) ∧ RM B w' v' (s.read i).1 ∧ Below w.heap.size w w' := by
  obtain ⟨A, c, rfl, k, t⟩ := h
  refine (rread_any k hc i).mono ?_
  rintro e w' ⟨rfl, hb⟩
  refine ⟨_, rfl, ⟨A, c, by rw [read_l], ?_, ?_⟩, hb⟩
  · rw [read_l]; exact k.below hb
  · rw [read_l]; exact t.below hb
set_option maxRecDepth 100000 in
set_option maxHeartbeats 1600000 in
theorem rswap_rm {B : Nat} {w : World} {v0 : Value} {s : CS} (h : RM B w v0 s) (hBw : B ≤ w.heap.size) (hc : s.c < 4611686018427387904) (hle : s.l.length ≤ 4096) (i v : Int) :
    Calls Tryd.prog 27 #[v0, .int .i64 i, .int .i64 v] w fun e w' =>
      ∃ v', e = .returned (.tuple #[v', .int .i64 (s.swap i v).2.1, .int .i64 (s.swap i v).2.2]) ∧ RM B w' v' (s.swap i v).1 ∧ Below w.heap.size w w' := by
  obtain ⟨A, c, rfl, h, ht⟩ := h
  have HT := Lib.hid ht
  clear ht
  obtain ⟨w2, hw2⟩ : ∃ w2, w2 = (w.alloc (.cells #[.slice A s.l.length c, .int .i64 s.c] 45)).alloc (.cells #[.slice none 0 0, .int .i64 0] 45) := ⟨_, rfl⟩
  have hb2 : Below w.heap.size w w2 := by rw [hw2]; exact (below_alloc (Nat.le_refl _) _).alloc (by simp) _
  have k1 : Blk w2 w.heap.size 45 #[.slice A s.l.length c, .int .i64 s.c] := by rw [hw2]; exact (Blk.new _ _ _).alloc _
  have k2 : Blk w2 (w.heap.size + 1) 45 #[.slice none 0 0, .int .i64 0] := by
    rw [hw2]; have := Blk.new (w.alloc (.cells #[.slice A s.l.length c, .int .i64 s.c] 45)) 45 #[.slice none 0 0, .int .i64 0]; simpa using this
  have HWY := Lib.hid (why_any' A s.l.length c s.c i v w2)
  have HW2 := Lib.hid hw2
  have HB2 := Lib.hid hb2
  have K1 := Lib.hid k1
  have K2 := Lib.hid k2
  have HI := Lib.hid h
  have wc := wrap_succ s.c hc
  clear hw2 hb2 k1 k2 h
  rcases why_cases s.l.length i v with ⟨e, h0, h1, h2, h3⟩ | ⟨e, h⟩ | ⟨e, h0, h1, h⟩
  · obtain ⟨j, rfl⟩ := Int.eq_ofNat_of_zero_le h0
    have hj : j < s.l.length := by omega
    rw [swap_in hj h2 h3]
    rw [show why s.l.length (j : Int) v = 0 from e] at HWY
    clear e h0 h1 h2 h3
    obtain ⟨N, hN⟩ : ∃ N : Int, N = ((s.c + 1 : Nat) : Int) := ⟨_, rfl⟩
    rw [← hN] at wc
    have HN := Lib.hid hN
    have HJ := Lib.hid (nums_get s.l j hj)
    have HX := Lib.hid (rfl : s.l[j] = s.l[j])
    have j0 : (0 : Int) ≤ (j : Int) := by omega
    have j1 : (j : Int) < (s.l.length : Int) := by omega
    have hl0 : 0 < s.l.length := by omega
    clear hN hc
    generalize hx : s.l[j] = x at *
    clear HX hx
    go_enter Tryd.func27, Tryd.ntmps27
    go_wp2_with fail
    rw [← HW2.out]
    refine HWY.out.mono ?_
    rintro r w3 ⟨rfl, hb⟩
    have HF := Lib.hid (HB2.out.trans (hb.mono HB2.out.size))
    have Q1 := Lib.hid (K1.out.below hb K1.out.lt)
    have Q2 := Lib.hid (K2.out.below hb K2.out.lt)
    have p10 : w3.cell? ⟨w.heap.size, 0, none⟩ = some (.slice A s.l.length c) := (Q1.out.cell 0).trans rfl
    clear hb HWY K1 K2 HB2 HW2
    go_wp2_with (at_builtin; go_loud (refine app_copy rfl _ _ rfl s.l rfl _ rfl (HI.out.below HF.out) hl0 (by omega) ?_))
    intro v' w4 ho hb
    obtain ⟨g, cap, rfl, hg, hglt, hcap, hcell, hfr⟩ := own_pos ho hl0
    have hty : ∃ cs, Blk w4 g 3 cs := by
      rcases ho.2 with ⟨e, _⟩ | ⟨g', cap', cur, e, _, hh, _⟩
      · cases e
      · injection e with e _ _
        injection e with e
        injection e with e _ _
        subst e
        exact ⟨cur, hh⟩
    obtain ⟨cs, hty⟩ := hty
    have q1 := Q1.out.below hb Q1.out.lt
    have q2 := Q2.out.below hb Q2.out.lt
    have HF4 := Lib.hid (HF.out.trans (hb.mono HF.out.size))
    have l1 := Q1.out.lt
    have l2 := Q2.out.lt
    have c0 : w4.cell? ⟨g, j, none⟩ = some (.int .i64 x) := (hcell j (by omega)).trans HJ.out
    have fj := hfr j
    have HBG : B ≤ g := by omega
    have n1 : g ≠ w.heap.size := by omega
    have n2 : g ≠ w.heap.size + 1 := by omega
    have n1' : w.heap.size ≠ g := by omega
    have n2' : w.heap.size + 1 ≠ g := by omega
    have b10 : w4.cell? ⟨w.heap.size, 0, none⟩ = some (.slice A s.l.length c) := (q1.cell 0).trans rfl
    have b11 : w4.cell? ⟨w.heap.size, 1, none⟩ = some (.int .i64 s.c) := (q1.cell 1).trans rfl
    have b20 : w4.cell? ⟨w.heap.size + 1, 0, none⟩ = some (.slice none 0 0) := (q2.cell 0).trans rfl
    have b21 : w4.cell? ⟨w.heap.size + 1, 1, none⟩ = some (.int .i64 0) := (q2.cell 1).trans rfl
    have f20 := q2.fr 0
    have f21 := q2.fr 1
    have HZ := Lib.hid (show Blk (((w4.setCell ⟨g, j, none⟩ (.int .i64 v)).setCell ⟨w.heap.size + 1, 0, none⟩ (.slice (some ⟨g, 0, none⟩) s.l.length cap)).setCell ⟨w.heap.size + 1, 1, none⟩ (.int .i64 N)) (w.heap.size + 1) 45 #[.slice (some ⟨g, 0, none⟩) s.l.length cap, .int .i64 N] from ((q2.far (p := ⟨g, j, none⟩) n2' _).set 0 _).set 1 _)
    have HFZ := Lib.hid (show Below w.heap.size w (((w4.setCell ⟨g, j, none⟩ (.int .i64 v)).setCell ⟨w.heap.size + 1, 0, none⟩ (.slice (some ⟨g, 0, none⟩) s.l.length cap)).setCell ⟨w.heap.size + 1, 1, none⟩ (.int .i64 N)) from
      below_onl HF4.out (onl_set (S := fun k => w.heap.size ≤ k) (onl_set (S := fun k => w.heap.size ≤ k) (onl_set (S := fun k => w.heap.size ≤ k) (onl_refl _ w4) (p := ⟨g, j, none⟩) (.inl (by simp; omega)) _) (p := ⟨w.heap.size + 1, 0, none⟩) (.inl (by simp)) _) (p := ⟨w.heap.size + 1, 1, none⟩) (.inl (by simp)) _) HF4.out.size (fun k e => e))
    have HIN := Lib.hid (show IntsIn (((w4.setCell ⟨g, j, none⟩ (.int .i64 v)).setCell ⟨w.heap.size + 1, 0, none⟩ (.slice (some ⟨g, 0, none⟩) s.l.length cap)).setCell ⟨w.heap.size + 1, 1, none⟩ (.int .i64 N)) (.slice (some ⟨g, 0, none⟩) (s.l.set j v).length cap) (s.l.set j v) from
      ⟨_, _, rfl, by rw [List.length_set]; exact hcap, fun _ => ⟨g, 0, rfl, fun q hq => by
        rw [List.length_set] at hq
        rw [Nat.zero_add, cell_far n2', cell_far n2', List.getElem_set]
        by_cases e : j = q
        · subst e; rw [if_pos rfl]; exact World.cell?_setCell_same _ _ _ c0
        · rw [if_neg e, cell_off e, hcell q (by omega)]; exact nums_get s.l q hq⟩⟩)
    have HTY := Lib.hid (show RowT B (((w4.setCell ⟨g, j, none⟩ (.int .i64 v)).setCell ⟨w.heap.size + 1, 0, none⟩ (.slice (some ⟨g, 0, none⟩) s.l.length cap)).setCell ⟨w.heap.size + 1, 1, none⟩ (.int .i64 N)) (some ⟨g, 0, none⟩) (s.l.set j v).length from fun _ => ⟨g, 0, _, rfl, ((hty.set j _).far (p := ⟨w.heap.size + 1, 0, none⟩) n2 _).far (p := ⟨w.heap.size + 1, 1, none⟩) n2 _, HBG⟩)
    clear hty hcell hfr ho hb q1 q2 HF HF4 Q1 Q2 p10 HJ HI l1 l2 hg hglt
    go_wp2
    refine bodyPost_ret (res_c3 rfl _ rfl HZ.out Tryd.underlying45 rfl sizeM) rfl ⟨_, rfl, ⟨_, cap, ?_, HIN.out, HTY.out⟩, HFZ.out⟩
    rw [HN.out, List.length_set]
  all_goals
    rw [swap_bad_eq2 (by unfold CS.why; rw [e]; decide)]
    rw [show s.why i v = _ from e]
    rw [e] at HWY
    clear e h
    go_enter Tryd.func27, Tryd.ntmps27
    go_wp2_with fail
    rw [← HW2.out]
    refine HWY.out.mono ?_
    rintro r w3 ⟨rfl, hb⟩
    have q1 := K1.out.below hb K1.out.lt
    have q2 := K2.out.below hb K2.out.lt
    have p10 : w3.cell? ⟨w.heap.size, 0, none⟩ = some (.slice A s.l.length c) := (q1.cell 0).trans rfl
    have p11 : w3.cell? ⟨w.heap.size, 1, none⟩ = some (.int .i64 s.c) := (q1.cell 1).trans rfl
    have p20 : w3.cell? ⟨w.heap.size + 1, 0, none⟩ = some (.slice none 0 0) := (q2.cell 0).trans rfl
    have p21 : w3.cell? ⟨w.heap.size + 1, 1, none⟩ = some (.int .i64 0) := (q2.cell 1).trans rfl
    have f20 := q2.fr 0
    have f21 := q2.fr 1
    have HF := Lib.hid (HB2.out.trans (hb.mono HB2.out.size))
    clear hb HWY K1 K2 HB2 HW2
    have HZ := Lib.hid (show Blk ((w3.setCell ⟨w.heap.size + 1, 0, none⟩ (.slice A s.l.length c)).setCell ⟨w.heap.size + 1, 1, none⟩ (.int .i64 s.c)) (w.heap.size + 1) 45 #[.slice A s.l.length c, .int .i64 s.c] from (q2.set 0 _).set 1 _)
    have HFZ := Lib.hid (show Below w.heap.size w ((w3.setCell ⟨w.heap.size + 1, 0, none⟩ (.slice A s.l.length c)).setCell ⟨w.heap.size + 1, 1, none⟩ (.int .i64 s.c)) from
      below_onl HF.out (onl_set (S := fun k => k = w.heap.size + 1) (onl_set (S := fun k => k = w.heap.size + 1) (onl_refl _ w3) (p := ⟨w.heap.size + 1, 0, none⟩) (.inl rfl) _) (p := ⟨w.heap.size + 1, 1, none⟩) (.inl rfl) _) HF.out.size (fun k e => by omega))
    clear q1 q2 HF
    go_wp2
    exact bodyPost_ret (res_c3 rfl _ rfl HZ.out Tryd.underlying45 rfl sizeM) rfl ⟨_, rfl, ⟨A, c, rfl, HI.out.below HFZ.out, HT.out.below HFZ.out⟩, HFZ.out⟩
end Go.Proofs.YtkamcjejongmbaaDoor
