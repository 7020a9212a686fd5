-- PRINTED BY print.sh 35421559b90ae4d0a3588c463048766b98c2df88dd9212a6774a882060cdf62d: not written by this session
import Derived.Test.YtjmhdkcnllnekaaPPoolPlaysx0
namespace Go.Proofs.Ytjmhdkcnllnekaa.PPoolPlays
open Go.RowKit Go.Proofs.YtjmhdkcnllnekaaW.PrintWords Go.Proofs.YtjmhdkcnllnekaaW.PrintLast Go.Proofs.YtjmhdkcnllnekaaW.PrintMore
attribute [local go_sem] max2_int min2_int max_two min_two max_three min_three max_four min_four   -- for this text's walks alone
set_option linter.unusedVariables false
set_option linter.unusedSimpArgs false

/-! ### empennageref09_Free: function 26 -/
def empennageref09_Free.l0 : Nat → Int → Int → List Bool → List Int → List Int → Option (Int)
  | 0, _, _, _, _, _ => none
  | k + 1, x3, x4, x183000, x183001, x183002 => if x4 < (x183000.length : Int) then (if 0 ≤ x4 then (if rdOf false x183000 x4 = true then (empennageref09_Free.l0 k x3 (wrap64 (x4 + 1)) x183000 x183001 x183002) else (empennageref09_Free.l0 k (wrap64 (x3 + 1)) (wrap64 (x4 + 1)) x183000 x183001 x183002)) else (none)) else (some x3)
def empennageref09_Free.f (k : Nat) (l0_0 : List Bool) (l0_1 : List Int) (l0_2 : List Int) : Option (Int) := empennageref09_Free.l0 k 0 0 l0_0 l0_1 l0_2
theorem empennageref09_Free.mono_l : ∀ k, (∀ y0 y1 y2 y3 y4, LeO (empennageref09_Free.l0 k y0 y1 y2 y3 y4) (empennageref09_Free.l0 (k + 1) y0 y1 y2 y3 y4))
  | 0 => fun _ _ _ _ _ r h => by simp [empennageref09_Free.l0] at h
  | k + 1 => by
    have ih0 := empennageref09_Free.mono_l k
    · intro y0 y1 y2 y3 y4
      unfold empennageref09_Free.l0
      repeat' first
      | (with_reducible exact ih0 _ _ _ _ _)
      | (with_reducible exact LeO.refl _)
      | (with_reducible exact LeO.none _)
      | (with_reducible refine LeO.ite ?_ ?_)
      | (with_reducible refine LeO.bind ?_ (fun _ => ?_))
      | exact ih0 _ _ _ _ _
      | exact LeO.none _
      | refine LeO.ite ?_ ?_
      | refine LeO.bind ?_ (fun _ => ?_)
theorem empennageref09_Free.mono : ∀ a0 a1 a2 k, LeO (empennageref09_Free.f k a0 a1 a2) (empennageref09_Free.f (k + 1) a0 a1 a2) := by
  intro a0 a1 a2 k
  have ih0 := empennageref09_Free.mono_l k
  unfold empennageref09_Free.f
  repeat' first
      | (with_reducible exact ih0 _ _ _ _ _)
      | (with_reducible exact LeO.refl _)
      | (with_reducible exact LeO.none _)
      | (with_reducible refine LeO.ite ?_ ?_)
      | (with_reducible refine LeO.bind ?_ (fun _ => ?_))
      | exact ih0 _ _ _ _ _
      | exact LeO.none _
      | refine LeO.ite ?_ ?_
      | refine LeO.bind ?_ (fun _ => ?_)
set_option maxHeartbeats 8000000 in
set_option maxRecDepth 100000 in
theorem empennageref09_Free.calls (k : Nat) (A0_0 : Option Addr) (c0_0 : Nat) (l0_0 : List Bool) (A0_1 : Option Addr) (c0_1 : Nat) (l0_1 : List Int) (A0_2 : Option Addr) (c0_2 : Nat) (l0_2 : List Int) (r : Int) (w : World) (hr0_0 : Kd.C Kd.bool w A0_0 l0_0.length l0_0) (hc0_0 : l0_0.length ≤ c0_0) (hr0_1 : Kd.C (Kd.int .i64) w A0_1 l0_1.length l0_1) (hc0_1 : l0_1.length ≤ c0_1) (hr0_2 : Kd.C (Kd.int .i64) w A0_2 l0_2.length l0_2) (hc0_2 : l0_2.length ≤ c0_2) (h : empennageref09_Free.f k l0_0 l0_1 l0_2 = some r) :
    Calls Try.prog 26 #[.agg #[.slice A0_0 l0_0.length c0_0, .slice A0_1 l0_1.length c0_1, .slice A0_2 l0_2.length c0_2]] w fun e w' => e = .returned (.int .i64 r) ∧ Below w.heap.size w w' := by
  have hu43 := Try.underlying43
  have HR0_0 := Aside0.mk hr0_0
  have HC0_0 := Aside0.mk hc0_0
  clear hr0_0 hc0_0
  have HR0_1 := Aside0.mk hr0_1
  have HC0_1 := Aside0.mk hc0_1
  clear hr0_1 hc0_1
  have HR0_2 := Aside0.mk hr0_2
  have HC0_2 := Aside0.mk hc0_2
  clear hr0_2 hc0_2
  have HB := Aside0.mk (Below.refl w.heap.size w)
  have H : (empennageref09_Free.l0 k 0 0 l0_0 l0_1 l0_2) = some r := h
  clear h
  have H' := Aside0.mk H
  clear H
  go_enter Try.func26, Try.ntmps26
  go_wp2_with (first | ((with_reducible refine gate_dst (N := 1) rfl ?_); refine box_event ?hg (N := 1) ?hd (cs := #[.slice A0_0 l0_0.length c0_0, .slice A0_1 l0_1.length c0_1, .slice A0_2 l0_2.length c0_2]) (t := 43) ?hr ?_; (case hd => rfl); (case hg => rfl); (case hr => first | (go_simp; done) | (go_simp; rfl)); intro gb182 hg w2 hbox hb; have n0_ := Aside0.mk (below_step (by repeat (first | (with_reducible first | exact HB.out | apply below_alloc | apply pw_below_drewN | apply below_drew1) | exact HB.out)) hb); have n1_ := Aside0.mk (hbox); have n2_ := Aside0.mk ((by rw [hg]; exact (below_size (by repeat (first | (with_reducible first | exact HB.out | apply below_alloc | apply pw_below_drewN | apply below_drew1) | exact HB.out))) : w.heap.size ≤ gb182)); have n3_ := Aside0.mk ((by rw [hg]; exact (below_size (by repeat (first | (with_reducible first | exact HB.out | apply below_alloc | apply pw_below_drewN | apply below_drew1) | exact HB.out))) : w.heap.size ≤ gb182)); clear HB; have HB := n0_; have BK182 := n1_; have GW182 := n2_; have GE182 := n3_; clear n0_ n1_ n2_ n3_; clear hb hbox hg))
  go_loopg [3, 4] k (fun kq v3 v4 w' => ∃ (x3_1 : Int) (x4_1 : Int), v3 = .int .i64 x3_1 ∧ v4 = .int .i64 x4_1 ∧ Aside0 (empennageref09_Free.l0 kq x3_1 x4_1 l0_0 l0_1 l0_2 = some r) ∧ Aside0 (kq ≤ k) ∧ Aside0 (w'.heap[gb182]? = some (.cells #[(.slice A0_0 l0_0.length c0_0), (.slice A0_1 l0_1.length c0_1), (.slice A0_2 l0_2.length c0_2)] 43 (0, 0))) ∧ Aside0 (Below w.heap.size w w'))
  case atStart => exact ⟨(0), (0), (by first | rfl | (simp; done) | (simp [*]; done)), (by first | rfl | (simp; done) | (simp [*]; done)), H', ⟨Nat.le_refl _⟩, ⟨by (with_reducible repeat (first | refine blk_drewN ?_ _ | refine blk_drew ?_ | refine blk_alloc ?_ _)); exact BK182.out⟩, ⟨by repeat (first | (with_reducible first | exact HB.out | apply below_alloc | apply pw_below_drewN | apply below_drew1 | refine below_set ?_ GE182.out) | exact HB.out)⟩⟩
  case round =>
    clear H'
    try clear c2
    try clear p2
    obtain ⟨x3_1, x4_1, rfl, rfl, HA, HK1, BK182, HB⟩ := hrel
    cases gk with
    | zero => exact absurd HA.out (by simp [empennageref09_Free.l0])
    | succ k1 =>
      have H := HA.out
      clear HA
      simp only [empennageref09_Free.l0] at H
      by_cases c3 : x4_1 < (l0_0.length : Int)
      · rw [if_pos c3] at H
        have c3b0 : decide (x4_1 < (l0_0.length : Int)) = true := decide_eq_true c3
        clear c3
        by_cases c4 : 0 ≤ x4_1
        · rw [if_pos c4] at H
          have c4b0 : decide (0 ≤ x4_1) = true := decide_eq_true c4
          clear c4
          obtain ⟨bq5, hbq5⟩ : ∃ b_ : Bool, b_ = (rdOf false l0_0 x4_1) := ⟨_, rfl⟩
          replace H : (if bq5 = true then (empennageref09_Free.l0 k1 x3_1 (wrap64 (x4_1 + 1)) l0_0 l0_1 l0_2) else (empennageref09_Free.l0 k1 (wrap64 (x3_1 + 1)) (wrap64 (x4_1 + 1)) l0_0 l0_1 l0_2)) = some r := by rw [← hbq5] at H; exact H
          have Nbq5 := Aside0.mk hbq5
          clear hbq5
          by_cases c6 : bq5 = true
          · subst c6
            have H1 : (empennageref09_Free.l0 k1 x3_1 (wrap64 (x4_1 + 1)) l0_0 l0_1 l0_2) = some r := by rw [if_pos rfl] at H; exact H
            clear H
            have H := H1
            clear H1
            have H' := Aside0.mk H
            clear H
            have hcz7_0 : wr.cell? ⟨gb182, 0, none⟩ = some (.slice A0_0 l0_0.length c0_0) := (blk_cell BK182.out 0).trans rfl
            have hcz7_1 : wr.cell? ⟨gb182, 1, none⟩ = some (.slice A0_1 l0_1.length c0_1) := (blk_cell BK182.out 1).trans rfl
            have hcz7_2 : wr.cell? ⟨gb182, 2, none⟩ = some (.slice A0_2 l0_2.length c0_2) := (blk_cell BK182.out 2).trans rfl
            have hfz7_0 := blk_frozen BK182.out 0
            have hfz7_1 := blk_frozen BK182.out 1
            have hfz7_2 := blk_frozen BK182.out 2
            have p183 : 0 ≤ (x4_1 : Int) := of_decide_eq_true (by first | (with_reducible assumption) | assumption)
            have q183 : x4_1 < (l0_0.length : Int) := of_decide_eq_true (by first | (with_reducible assumption) | assumption)
            obtain ⟨ad183, e183, hx183_0⟩ := Kd.at_bool HR0_0.out x4_1 p183 q183
            (try rw [← Nbq5.out] at hx183_0)
            cases e183
            replace hx183_0 := (HB.out.cell (World.block_lt_of_cell? w _ hx183_0)).trans hx183_0
            replace p183 := eq_true p183
            replace q183 := eq_true q183
            go_wp2
            go_roundg k1
            case measure => have := HK1.out; omega
            case rel => exact ⟨(x3_1), (wrap64 (x4_1 + 1)), (by first | rfl | (simp; done) | (simp [*]; done)), (by first | rfl | (simp; done) | (simp [*]; done)), H', ⟨by have := HK1.out; omega⟩, ⟨by (with_reducible repeat (first | refine blk_drewN ?_ _ | refine blk_drew ?_ | refine blk_alloc ?_ _)); exact BK182.out⟩, ⟨by repeat (first | (with_reducible first | exact HB.out | apply below_alloc | apply pw_below_drewN | apply below_drew1 | refine below_set ?_ GE182.out) | exact HB.out)⟩⟩
          · replace c6 := Bool.eq_false_iff.mpr c6
            subst c6
            have H1 : (empennageref09_Free.l0 k1 (wrap64 (x3_1 + 1)) (wrap64 (x4_1 + 1)) l0_0 l0_1 l0_2) = some r := by rw [if_neg (show ¬ (false = true) by decide)] at H; exact H
            clear H
            have H := H1
            clear H1
            have H' := Aside0.mk H
            clear H
            have hcz8_0 : wr.cell? ⟨gb182, 0, none⟩ = some (.slice A0_0 l0_0.length c0_0) := (blk_cell BK182.out 0).trans rfl
            have hcz8_1 : wr.cell? ⟨gb182, 1, none⟩ = some (.slice A0_1 l0_1.length c0_1) := (blk_cell BK182.out 1).trans rfl
            have hcz8_2 : wr.cell? ⟨gb182, 2, none⟩ = some (.slice A0_2 l0_2.length c0_2) := (blk_cell BK182.out 2).trans rfl
            have hfz8_0 := blk_frozen BK182.out 0
            have hfz8_1 := blk_frozen BK182.out 1
            have hfz8_2 := blk_frozen BK182.out 2
            have p183 : 0 ≤ (x4_1 : Int) := of_decide_eq_true (by first | (with_reducible assumption) | assumption)
            have q183 : x4_1 < (l0_0.length : Int) := of_decide_eq_true (by first | (with_reducible assumption) | assumption)
            obtain ⟨ad183, e183, hx183_0⟩ := Kd.at_bool HR0_0.out x4_1 p183 q183
            (try rw [← Nbq5.out] at hx183_0)
            cases e183
            replace hx183_0 := (HB.out.cell (World.block_lt_of_cell? w _ hx183_0)).trans hx183_0
            replace p183 := eq_true p183
            replace q183 := eq_true q183
            go_wp2
            go_roundg k1
            case measure => have := HK1.out; omega
            case rel => exact ⟨(wrap64 (x3_1 + 1)), (wrap64 (x4_1 + 1)), (by first | rfl | (simp; done) | (simp [*]; done)), (by first | rfl | (simp; done) | (simp [*]; done)), H', ⟨by have := HK1.out; omega⟩, ⟨by (with_reducible repeat (first | refine blk_drewN ?_ _ | refine blk_drew ?_ | refine blk_alloc ?_ _)); exact BK182.out⟩, ⟨by repeat (first | (with_reducible first | exact HB.out | apply below_alloc | apply pw_below_drewN | apply below_drew1 | refine below_set ?_ GE182.out) | exact HB.out)⟩⟩
        · rw [if_neg c4] at H
          exact absurd H (by simp)
      · rw [if_neg c3] at H
        have c3b0 : decide (x4_1 < (l0_0.length : Int)) = false := decide_eq_false c3
        clear c3
        obtain rfl := Option.some.inj H
        have hcz9_0 : wr.cell? ⟨gb182, 0, none⟩ = some (.slice A0_0 l0_0.length c0_0) := (blk_cell BK182.out 0).trans rfl
        have hcz9_1 : wr.cell? ⟨gb182, 1, none⟩ = some (.slice A0_1 l0_1.length c0_1) := (blk_cell BK182.out 1).trans rfl
        have hcz9_2 : wr.cell? ⟨gb182, 2, none⟩ = some (.slice A0_2 l0_2.length c0_2) := (blk_cell BK182.out 2).trans rfl
        have hfz9_0 := blk_frozen BK182.out 0
        have hfz9_1 := blk_frozen BK182.out 1
        have hfz9_2 := blk_frozen BK182.out 2
        go_wp2
        go_ret
        exact ⟨by first | rfl | (simp [errW_none, errW_some] <;> rfl) | (simp [*, errW_none, errW_some] <;> rfl), by repeat (first | (with_reducible first | exact HB.out | apply below_alloc | apply pw_below_drewN | apply below_drew1 | refine below_set ?_ GE182.out) | exact HB.out)⟩

-- NOT PRINTED: function 6 (empennagelaw09_PoolPlays)

end Go.Proofs.Ytjmhdkcnllnekaa.PPoolPlays
