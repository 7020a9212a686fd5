/- The reference: Reset within bounds. -/
import Derived.Test.YtkamcjejongmbaaDoorCellX
namespace Go.Proofs.YtkamcjejongmbaaDoor
open Go.RowKit

set_option maxRecDepth 100000 in
set_option maxHeartbeats 3200000 in
theorem rreset_ok {B : Nat} {w : World} {A : Option Addr} {c : Nat} {l : List Int} {N : Int} (h : IntsIn w (.slice A l.length c) l) (hle : l.length ≤ 4096) (a k : Nat) (hak : a + k ≤ l.length) (hl0 : 0 < l.length) (hBw : B ≤ w.heap.size) :
    Calls Tryd.prog 28 #[.agg #[.slice A l.length c, .int .i64 N], .int .i64 a, .int .i64 k] w fun e w' =>
      ∃ A' c', e = .returned (.tuple #[.agg #[.slice A' l.length c', .int .i64 N], .int .i64 0]) ∧ IntsIn w' (.slice A' l.length c') (zeroed l a k) ∧ RowT B w' A' l.length ∧ Below w.heap.size w w' := by
  obtain ⟨w2, hw2⟩ : ∃ w2, w2 = (w.alloc (.cells #[.slice A l.length c, .int .i64 N] 45)).alloc (.cells #[.slice none 0 0, .int .i64 0] 45) := ⟨_, rfl⟩
  have hb2 : Below w.heap.size w w2 := by rw [hw2]; exact (below_alloc (Nat.le_refl _) _).alloc (by simp) _
  have k1 : Blk w2 w.heap.size 45 #[.slice A l.length c, .int .i64 N] := by rw [hw2]; exact (Blk.new _ _ _).alloc _
  have k2 : Blk w2 (w.heap.size + 1) 45 #[.slice none 0 0, .int .i64 0] := by
    rw [hw2]; have := Blk.new (w.alloc (.cells #[.slice A l.length c, .int .i64 N] 45)) 45 #[.slice none 0 0, .int .i64 0]; simpa using this
  have HW2 := Lib.hid hw2
  have HB2 := Lib.hid hb2
  have K1 := Lib.hid k1
  have K2 := Lib.hid k2
  have HI := Lib.hid (h.below hb2)
  have b0 : ¬ (k : Int) < 0 := by omega
  have b1 : ¬ (a : Int) < 0 := by omega
  have b2 : ¬ (l.length : Int) < (a : Int) := by omega
  have e1 : wrap64 ((l.length : Int) - (a : Int)) = (l.length : Int) - a := by unfold wrap64; omega
  have b3 : ¬ (l.length : Int) - (a : Int) < (k : Int) := by omega
  clear hw2 hb2 k1 k2 h
  go_enter Tryd.func28, Tryd.ntmps28
  go_wp2_with (at_builtin; go_loud (rw [← HW2.out]; refine app_copy rfl _ _ rfl l rfl _ rfl HI.out hl0 (by omega) ?_))
  intro v' w4 ho hb
  have hcell' : ∀ p, p < l.length * 1 → ∀ g, v'.ownBlock = some g → w4.cell? ⟨g, p, none⟩ = (nums l)[p]? := fun p hp g hg => by
    rcases ho.2 with ⟨rfl, _⟩ | ⟨g', cap', cur, rfl, _⟩
    · cases hg
    · injection hg with hg
      subst hg
      exact ho.cellAt p hp
  obtain ⟨_, ⟨_, hz⟩ | ⟨g, cap, cs, rfl, hg, hh, hcap, _⟩⟩ := ho
  · omega
  have HH := Lib.hid (show Blk w4 g 3 cs from hh)
  have HC := Lib.hid (show ∀ p, p < l.length → cs[p]? = some (.int .i64 ((zeroed l a 0).getD p 0)) from fun p hp => by
    rw [zeroed_val l a 0 p (by omega) hp, if_neg (by omega), ← Blk.cell (w := w4) hh p, hcell' p (by omega) g rfl, nums_get l p hp, List.getD_eq_getElem?_getD, List.getElem?_eq_getElem hp]
    rfl)
  have Q1 := Lib.hid (K1.out.below hb K1.out.lt)
  have Q2 := Lib.hid (K2.out.below hb K2.out.lt)
  have HF := Lib.hid (HB2.out.trans (hb.mono HB2.out.size))
  have n1 : g ≠ w.heap.size := by have := K1.out.lt; omega
  have n2 : g ≠ w.heap.size + 1 := by have := K2.out.lt; omega
  have n1' : w.heap.size ≠ g := fun e => n1 e.symm
  have n2' : w.heap.size + 1 ≠ g := fun e => n2 e.symm
  have hgw : w.heap.size ≤ g := by have := HB2.out.size; omega
  clear hcell' hh hb HB2 HI HW2 K1 K2 hg e1 b0 b1 b2 b3
  go_wp2
  go_loopw [9] (fun i wr => ∃ q : Nat, q ≤ k ∧ i = .int .i64 q ∧ Only (fun j => j = g) w4 wr ∧ ∃ cs, Blk wr g 3 cs ∧ ∀ p, p < l.length → cs[p]? = some (.int .i64 ((zeroed l a q).getD p 0))) (fun i _ => k - (intOf i).toNat)
  case atStart => exact ⟨0, Nat.zero_le _, rfl, onl_refl _ _, _, HH.out, HC.out⟩
  case round =>
    obtain ⟨q, hq, rfl, hO, cs', hB, hcs⟩ := hrel
    clear HH HC
    by_cases hlt : q < k
    · have c1 : wr.cell? ⟨g, a + q, none⟩ = some (.int .i64 ((zeroed l a q).getD (a + q) 0)) := (hB.cell (a + q)).trans (hcs (a + q) (by omega))
      have f1 := hB.fr (a + q)
      have HO' := Lib.hid (onl_set (S := fun j => j = g) hO (p := ⟨g, a + q, none⟩) (.inl rfl) (.int .i64 0))
      have HB' := Lib.hid (hB.set (a + q) (.int .i64 0))
      have HC' := Lib.hid (show ∀ p, p < l.length → (cs'.setIfInBounds (a + q) (.int .i64 0))[p]? = some (.int .i64 ((zeroed l a (q + 1)).getD p 0)) from fun p hp => by
        rw [zeroed_val l a (q + 1) p (by omega) hp, Array.getElem?_setIfInBounds]
        by_cases e : a + q = p
        · subst e
          have := hcs (a + q) hp
          have h2 := (Array.getElem?_eq_some_iff.1 this).1
          rw [if_pos rfl, if_pos h2, if_pos (by omega)]
        · rw [if_neg e, hcs p hp, zeroed_val l a q p (by omega) hp]
          by_cases e2 : a ≤ p ∧ p < a + q
          · rw [if_pos e2, if_pos (by omega)]
          · rw [if_neg e2, if_neg (by omega)])
      have t0 : (q : Int) < (k : Int) := by omega
      have t1 : (0 : Int) ≤ (a : Int) + q := by omega
      have t2 : (a : Int) + q < (l.length : Int) := by omega
      have t4 : ((a : Int) + (q : Int)).toNat = a + q := by omega
      clear hO hB hcs n1 n2 n1' n2' hgw
      generalize (zeroed l a q).getD (a + q) 0 = y at c1
      go_wp2
      go_roundw
      case rel => exact ⟨q + 1, by omega, by go_num, HO'.out, _, HB'.out, HC'.out⟩
      case measure => simp [intOf]; omega
    · obtain rfl : q = k := by omega
      have q1 := blk_onl Q1.out hO n1'
      have q2 := blk_onl Q2.out hO n2'
      have z1 : Blk (wr.setCell ⟨w.heap.size, 0, none⟩ (.slice (some ⟨g, 0, none⟩) l.length cap)) w.heap.size 45 #[.slice (some ⟨g, 0, none⟩) l.length cap, .int .i64 N] := q1.set 0 _
      have z2 := q2.far (p := ⟨w.heap.size, 0, none⟩) (by simp) (.slice (some ⟨g, 0, none⟩) l.length cap)
      have p10 : wr.cell? ⟨w.heap.size, 0, none⟩ = some (.slice A l.length c) := (q1.cell 0).trans rfl
      have p11 : wr.cell? ⟨w.heap.size, 1, none⟩ = some (.int .i64 N) := (q1.cell 1).trans rfl
      have p20 : wr.cell? ⟨w.heap.size + 1, 0, none⟩ = some (.slice none 0 0) := (q2.cell 0).trans rfl
      have p21 : wr.cell? ⟨w.heap.size + 1, 1, none⟩ = some (.int .i64 0) := (q2.cell 1).trans rfl
      have f10 := q1.fr 0
      have f20 := q2.fr 0
      have f21 := q2.fr 1
      have hOF : Only (fun j => w.heap.size ≤ j) wr (((wr.setCell ⟨w.heap.size, 0, none⟩ (.slice (some ⟨g, 0, none⟩) l.length cap)).setCell ⟨w.heap.size + 1, 0, none⟩ (.slice (some ⟨g, 0, none⟩) l.length cap)).setCell ⟨w.heap.size + 1, 1, none⟩ (.int .i64 N)) :=
        onl_set (onl_set (onl_set (onl_refl _ wr) (p := ⟨w.heap.size, 0, none⟩) (.inl (Nat.le_refl _)) _) (p := ⟨w.heap.size + 1, 0, none⟩) (.inl (by simp)) _) (p := ⟨w.heap.size + 1, 1, none⟩) (.inl (by simp)) _
      have HZ := Lib.hid (show Blk (((wr.setCell ⟨w.heap.size, 0, none⟩ (.slice (some ⟨g, 0, none⟩) l.length cap)).setCell ⟨w.heap.size + 1, 0, none⟩ (.slice (some ⟨g, 0, none⟩) l.length cap)).setCell ⟨w.heap.size + 1, 1, none⟩ (.int .i64 N)) (w.heap.size + 1) 45 #[.slice (some ⟨g, 0, none⟩) l.length cap, .int .i64 N] from (z2.set 0 _).set 1 _)
      have hwr : Below w.heap.size w wr := below_onl HF.out hO HF.out.size (fun j e => by omega)
      have HFZ := Lib.hid (below_onl hwr hOF hwr.size (fun j e => e))
      have hBF := ((hB.far (p := ⟨w.heap.size, 0, none⟩) n1 (.slice (some ⟨g, 0, none⟩) l.length cap)).far (p := ⟨w.heap.size + 1, 0, none⟩) n2 (.slice (some ⟨g, 0, none⟩) l.length cap)).far (p := ⟨w.heap.size + 1, 1, none⟩) n2 (.int .i64 N)
      have hzl : (zeroed l a q).length = l.length := zeroed_len _ _ _ hak
      have HIN := Lib.hid (show IntsIn (((wr.setCell ⟨w.heap.size, 0, none⟩ (.slice (some ⟨g, 0, none⟩) l.length cap)).setCell ⟨w.heap.size + 1, 0, none⟩ (.slice (some ⟨g, 0, none⟩) l.length cap)).setCell ⟨w.heap.size + 1, 1, none⟩ (.int .i64 N)) (.slice (some ⟨g, 0, none⟩) l.length cap) (zeroed l a q) from
        ⟨_, _, by rw [hzl], by rw [hzl]; exact hcap, fun _ => ⟨g, 0, rfl, fun p hp => by
          rw [Nat.zero_add, hBF.cell p, hcs p (by omega), List.getD_eq_getElem?_getD, List.getElem?_eq_getElem hp]
          rfl⟩⟩)
      have HTY := Lib.hid (show RowT B (((wr.setCell ⟨w.heap.size, 0, none⟩ (.slice (some ⟨g, 0, none⟩) l.length cap)).setCell ⟨w.heap.size + 1, 0, none⟩ (.slice (some ⟨g, 0, none⟩) l.length cap)).setCell ⟨w.heap.size + 1, 1, none⟩ (.int .i64 N)) (some ⟨g, 0, none⟩) l.length from fun _ => ⟨g, 0, _, rfl, hBF, Nat.le_trans hBw hgw⟩)
      clear hlt hO hB hcs z1 z2 q1 q2 hOF hwr hBF hzl HF Q1 Q2 hq
      go_wp2
      exact bodyPost_ret (res_c2 rfl _ rfl HZ.out Tryd.underlying45 rfl sizeM) rfl ⟨_, cap, rfl, HIN.out, HTY.out, HFZ.out⟩
end Go.Proofs.YtkamcjejongmbaaDoor
