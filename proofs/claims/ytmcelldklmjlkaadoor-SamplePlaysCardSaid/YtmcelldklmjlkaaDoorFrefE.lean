/- The reference's register: put. -/
import Derived.Test.YtmcelldklmjlkaaDoorFrefA
import Derived.Deep.CutBlock
namespace Go.Proofs.YtmcelldklmjlkaaDoor
open Go.RowKit

set_option maxRecDepth 100000 in
set_option maxHeartbeats 6400000 in
theorem refput {w : World} {r : RF} {l : List Int} {k p q : Nat} {v : Int} {Ad : Option Addr} {cd : Nat} (hp : p ≤ 1) (hq : q ≤ 1) (hd : (r.d (2 * p + q)).v = .slice Ad l.length cd) (hI : IntsIn w (.slice Ad l.length cd) l) (hk : k < l.length) (hl : l.length ≤ 65536) :
    Calls Tryd.prog 72 #[r.v, .int .i64 p, .int .i64 q, .int .i64 k, .int .i64 v] w fun e w' => ∃ g cap, e = .returned (RF.v (r.setd ⟨some ⟨g, 0, none⟩, l.length, cap⟩ (2 * p + q))) ∧ Below w.heap.size w w' ∧ IntsX w' (newX (fun _ => False) w w') (.slice (some ⟨g, 0, none⟩) l.length cap) (l.set k v) := by
  have HIN := Lib.hid (show ∀ w', Below w.heap.size w w' → IntsIn w' (.slice Ad l.length cd) l from fun w' hb => hI.below hb)
  have hl0 : 0 < l.length := by omega
  have b7 : (k : Int) < (l.length : Int) := by omega
  have b8 : (0 : Int) ≤ (k : Int) := by omega
  clear hI
  rcases (show (p = 0 ∧ q = 0) ∨ (p = 0 ∧ q = 1) ∨ (p = 1 ∧ q = 0) ∨ (p = 1 ∧ q = 1) by omega) with ⟨rfl, rfl⟩ | ⟨rfl, rfl⟩ | ⟨rfl, rfl⟩ | ⟨rfl, rfl⟩
  · clear hp hq
    have hd : (r.d 0).v = .slice Ad l.length cd := hd
    unfold RF.v
    go_enter Tryd.func72, Tryd.ntmps72
    go_upto_region 0 with (fail)
    go_cut [5, 10] (fun p0 p1 wx => ∃ x y, p0 = .pointer (some ⟨x, 0, none⟩) ∧ p1 = .pointer (some ⟨y, 0, none⟩) ∧ Boxed 46 w wx x y r.cells)
    case first =>
      go_wp2_with fail
      go_meet
      exact ⟨_, _, rfl, rfl, boxed_new _ _ _ _ rfl⟩
    case rest =>
      obtain ⟨x, y, rfl, rfl, hB⟩ := hcut
      have k_d : wc.cell? ⟨x, 5, none⟩ = some (.slice Ad l.length cd) := (hB.hx.cell 5).trans (by rw [show r.cells[5]? = some (r.d 0).v from RF.cd r 0 (by omega), hd])
      have hB1 := Lib.hid hB
      clear hB hd
      go_wp2_with (at_builtin; go_loud (refine app_copy rfl _ _ rfl l rfl _ rfl (HIN.out _ hB1.out.bel) hl0 hl ?_))
      intro v' w2 ho hb
      have hB2 := Lib.hid (hB1.out.go hb)
      obtain ⟨g, cap, rfl, hg, hglt, hcap, hcell, hfr⟩ := own_pos ho hl0
      have hgx : g ≠ x := by have := hB1.out.hx.lt; omega
      have hgy : g ≠ y := by obtain ⟨zs, _, hy⟩ := hB1.out.hy; have := hy.lt; omega
      have hgw : w.heap.size ≤ g := by have := hB1.out.bel.size; omega
      obtain ⟨z0, hz0⟩ : ∃ z0, w2.cell? ⟨g, k, none⟩ = some z0 := ⟨_, (hcell k (by omega)).trans (nums_get l k hk)⟩
      have f_v : w2.frozen? ⟨g, k, none⟩ = false := hfr k
      have hB3 := Lib.hid (hB2.out.far k (.int .i64 v) hgx hgy hgw)
      have k3_d : (w2.setCell ⟨g, k, none⟩ (.int .i64 v)).cell? ⟨x, 5, none⟩ = some (r.d 0).v := (hB3.out.hx.cell 5).trans (RF.cd r 0 (by omega))
      have f3_d := hB3.out.hx.fr 5
      have hB4 := hB3.out.set 5 (Sl.v ⟨some ⟨g, 0, none⟩, l.length, cap⟩)
      rw [show r.cells.setIfInBounds 5 (Sl.v ⟨some ⟨g, 0, none⟩, l.length, cap⟩) = (r.setd ⟨some ⟨g, 0, none⟩, l.length, cap⟩ 0).cells from RF.cset _ _ 0 (by omega)] at hB4
      have HB5 := Lib.hid (show Boxed 46 w ((w2.setCell ⟨g, k, none⟩ (.int .i64 v)).setCell ⟨x, 5, none⟩ (.slice (some ⟨g, 0, none⟩) l.length cap)) x y (r.setd ⟨some ⟨g, 0, none⟩, l.length, cap⟩ 0).cells from hB4)
      obtain ⟨zs, hz, hy⟩ := HB5.out.hy
      have HY := Lib.hid (And.intro hz hy)
      have HNEW := Lib.hid (show IntsX (((w2.setCell ⟨g, k, none⟩ (.int .i64 v)).setCell ⟨x, 5, none⟩ (.slice (some ⟨g, 0, none⟩) l.length cap)).setRow y (r.setd ⟨some ⟨g, 0, none⟩, l.length, cap⟩ 0).cells) (newX (fun _ => False) w (((w2.setCell ⟨g, k, none⟩ (.int .i64 v)).setCell ⟨x, 5, none⟩ (.slice (some ⟨g, 0, none⟩) l.length cap)).setRow y (r.setd ⟨some ⟨g, 0, none⟩, l.length, cap⟩ 0).cells)) (.slice (some ⟨g, 0, none⟩) l.length cap) (l.set k v) from
        row_new (n := l.length) rfl (fun j hj => hcell j (by omega)) (by omega) hcap (.inr ⟨hgw, by simpa [World.setCell] using hglt⟩) (fun j => by rw [cell_setRow_other _ _ _ _ hgy]; show ((w2.setCell ⟨g, k, none⟩ (.int .i64 v)).setCell ⟨x, 5, none⟩ (.slice (some ⟨g, 0, none⟩) l.length cap)).cell? ⟨g, j, none⟩ = _; rw [cell_far (Ne.symm hgx)]))
      clear ho hb hB2 hB3 hB4 hz hy hcell hfr hB1 k_d HIN
      go_wp2_with (first
        | ((with_reducible change wpList _ _ _ _ _ (((w2.setCell ⟨g, k, none⟩ (.int .i64 v)).setCell ⟨x, 5, none⟩ (.slice (some ⟨g, 0, none⟩) l.length cap)))); refine wpList_load_row rfl 46 _ rfl x rfl 46 _ (0, 0) _ HB5.out.hx Tryd.underlying46 rfl rinfo ?_)
        | ((with_reducible change wpList _ _ _ _ _ (((w2.setCell ⟨g, k, none⟩ (.int .i64 v)).setCell ⟨x, 5, none⟩ (.slice (some ⟨g, 0, none⟩) l.length cap)))); refine wpList_store_row rfl 46 _ _ rfl y _ rfl rfl 46 zs HY.out.2 rinfo HY.out.1 (RF.ones _) ?_))
      (try simp only [Exit.inBlock, Exit.then]); refine bodyPost_ret (res_c1 rfl _ rfl HB5.out.row Tryd.underlying46 rfl rinfo) rfl ?_
      exact ⟨g, cap, rfl, HB5.out.end_, HNEW.out⟩
  · clear hp hq
    have hd : (r.d 1).v = .slice Ad l.length cd := hd
    unfold RF.v
    go_enter Tryd.func72, Tryd.ntmps72
    go_upto_region 0 with (fail)
    go_cut [5, 10] (fun p0 p1 wx => ∃ x y, p0 = .pointer (some ⟨x, 0, none⟩) ∧ p1 = .pointer (some ⟨y, 0, none⟩) ∧ Boxed 46 w wx x y r.cells)
    case first =>
      go_wp2_with fail
      go_meet
      exact ⟨_, _, rfl, rfl, boxed_new _ _ _ _ rfl⟩
    case rest =>
      obtain ⟨x, y, rfl, rfl, hB⟩ := hcut
      have k_d : wc.cell? ⟨x, 6, none⟩ = some (.slice Ad l.length cd) := (hB.hx.cell 6).trans (by rw [show r.cells[6]? = some (r.d 1).v from RF.cd r 1 (by omega), hd])
      have hB1 := Lib.hid hB
      clear hB hd
      go_wp2_with (at_builtin; go_loud (refine app_copy rfl _ _ rfl l rfl _ rfl (HIN.out _ hB1.out.bel) hl0 hl ?_))
      intro v' w2 ho hb
      have hB2 := Lib.hid (hB1.out.go hb)
      obtain ⟨g, cap, rfl, hg, hglt, hcap, hcell, hfr⟩ := own_pos ho hl0
      have hgx : g ≠ x := by have := hB1.out.hx.lt; omega
      have hgy : g ≠ y := by obtain ⟨zs, _, hy⟩ := hB1.out.hy; have := hy.lt; omega
      have hgw : w.heap.size ≤ g := by have := hB1.out.bel.size; omega
      obtain ⟨z0, hz0⟩ : ∃ z0, w2.cell? ⟨g, k, none⟩ = some z0 := ⟨_, (hcell k (by omega)).trans (nums_get l k hk)⟩
      have f_v : w2.frozen? ⟨g, k, none⟩ = false := hfr k
      have hB3 := Lib.hid (hB2.out.far k (.int .i64 v) hgx hgy hgw)
      have k3_d : (w2.setCell ⟨g, k, none⟩ (.int .i64 v)).cell? ⟨x, 6, none⟩ = some (r.d 1).v := (hB3.out.hx.cell 6).trans (RF.cd r 1 (by omega))
      have f3_d := hB3.out.hx.fr 6
      have hB4 := hB3.out.set 6 (Sl.v ⟨some ⟨g, 0, none⟩, l.length, cap⟩)
      rw [show r.cells.setIfInBounds 6 (Sl.v ⟨some ⟨g, 0, none⟩, l.length, cap⟩) = (r.setd ⟨some ⟨g, 0, none⟩, l.length, cap⟩ 1).cells from RF.cset _ _ 1 (by omega)] at hB4
      have HB5 := Lib.hid (show Boxed 46 w ((w2.setCell ⟨g, k, none⟩ (.int .i64 v)).setCell ⟨x, 6, none⟩ (.slice (some ⟨g, 0, none⟩) l.length cap)) x y (r.setd ⟨some ⟨g, 0, none⟩, l.length, cap⟩ 1).cells from hB4)
      obtain ⟨zs, hz, hy⟩ := HB5.out.hy
      have HY := Lib.hid (And.intro hz hy)
      have HNEW := Lib.hid (show IntsX (((w2.setCell ⟨g, k, none⟩ (.int .i64 v)).setCell ⟨x, 6, none⟩ (.slice (some ⟨g, 0, none⟩) l.length cap)).setRow y (r.setd ⟨some ⟨g, 0, none⟩, l.length, cap⟩ 1).cells) (newX (fun _ => False) w (((w2.setCell ⟨g, k, none⟩ (.int .i64 v)).setCell ⟨x, 6, none⟩ (.slice (some ⟨g, 0, none⟩) l.length cap)).setRow y (r.setd ⟨some ⟨g, 0, none⟩, l.length, cap⟩ 1).cells)) (.slice (some ⟨g, 0, none⟩) l.length cap) (l.set k v) from
        row_new (n := l.length) rfl (fun j hj => hcell j (by omega)) (by omega) hcap (.inr ⟨hgw, by simpa [World.setCell] using hglt⟩) (fun j => by rw [cell_setRow_other _ _ _ _ hgy]; show ((w2.setCell ⟨g, k, none⟩ (.int .i64 v)).setCell ⟨x, 6, none⟩ (.slice (some ⟨g, 0, none⟩) l.length cap)).cell? ⟨g, j, none⟩ = _; rw [cell_far (Ne.symm hgx)]))
      clear ho hb hB2 hB3 hB4 hz hy hcell hfr hB1 k_d HIN
      go_wp2_with (first
        | ((with_reducible change wpList _ _ _ _ _ (((w2.setCell ⟨g, k, none⟩ (.int .i64 v)).setCell ⟨x, 6, none⟩ (.slice (some ⟨g, 0, none⟩) l.length cap)))); refine wpList_load_row rfl 46 _ rfl x rfl 46 _ (0, 0) _ HB5.out.hx Tryd.underlying46 rfl rinfo ?_)
        | ((with_reducible change wpList _ _ _ _ _ (((w2.setCell ⟨g, k, none⟩ (.int .i64 v)).setCell ⟨x, 6, none⟩ (.slice (some ⟨g, 0, none⟩) l.length cap)))); refine wpList_store_row rfl 46 _ _ rfl y _ rfl rfl 46 zs HY.out.2 rinfo HY.out.1 (RF.ones _) ?_))
      (try simp only [Exit.inBlock, Exit.then]); refine bodyPost_ret (res_c1 rfl _ rfl HB5.out.row Tryd.underlying46 rfl rinfo) rfl ?_
      exact ⟨g, cap, rfl, HB5.out.end_, HNEW.out⟩
  · clear hp hq
    have hd : (r.d 2).v = .slice Ad l.length cd := hd
    unfold RF.v
    go_enter Tryd.func72, Tryd.ntmps72
    go_upto_region 0 with (fail)
    go_cut [5, 10] (fun p0 p1 wx => ∃ x y, p0 = .pointer (some ⟨x, 0, none⟩) ∧ p1 = .pointer (some ⟨y, 0, none⟩) ∧ Boxed 46 w wx x y r.cells)
    case first =>
      go_wp2_with fail
      go_meet
      exact ⟨_, _, rfl, rfl, boxed_new _ _ _ _ rfl⟩
    case rest =>
      obtain ⟨x, y, rfl, rfl, hB⟩ := hcut
      have k_d : wc.cell? ⟨x, 7, none⟩ = some (.slice Ad l.length cd) := (hB.hx.cell 7).trans (by rw [show r.cells[7]? = some (r.d 2).v from RF.cd r 2 (by omega), hd])
      have hB1 := Lib.hid hB
      clear hB hd
      go_wp2_with (at_builtin; go_loud (refine app_copy rfl _ _ rfl l rfl _ rfl (HIN.out _ hB1.out.bel) hl0 hl ?_))
      intro v' w2 ho hb
      have hB2 := Lib.hid (hB1.out.go hb)
      obtain ⟨g, cap, rfl, hg, hglt, hcap, hcell, hfr⟩ := own_pos ho hl0
      have hgx : g ≠ x := by have := hB1.out.hx.lt; omega
      have hgy : g ≠ y := by obtain ⟨zs, _, hy⟩ := hB1.out.hy; have := hy.lt; omega
      have hgw : w.heap.size ≤ g := by have := hB1.out.bel.size; omega
      obtain ⟨z0, hz0⟩ : ∃ z0, w2.cell? ⟨g, k, none⟩ = some z0 := ⟨_, (hcell k (by omega)).trans (nums_get l k hk)⟩
      have f_v : w2.frozen? ⟨g, k, none⟩ = false := hfr k
      have hB3 := Lib.hid (hB2.out.far k (.int .i64 v) hgx hgy hgw)
      have k3_d : (w2.setCell ⟨g, k, none⟩ (.int .i64 v)).cell? ⟨x, 7, none⟩ = some (r.d 2).v := (hB3.out.hx.cell 7).trans (RF.cd r 2 (by omega))
      have f3_d := hB3.out.hx.fr 7
      have hB4 := hB3.out.set 7 (Sl.v ⟨some ⟨g, 0, none⟩, l.length, cap⟩)
      rw [show r.cells.setIfInBounds 7 (Sl.v ⟨some ⟨g, 0, none⟩, l.length, cap⟩) = (r.setd ⟨some ⟨g, 0, none⟩, l.length, cap⟩ 2).cells from RF.cset _ _ 2 (by omega)] at hB4
      have HB5 := Lib.hid (show Boxed 46 w ((w2.setCell ⟨g, k, none⟩ (.int .i64 v)).setCell ⟨x, 7, none⟩ (.slice (some ⟨g, 0, none⟩) l.length cap)) x y (r.setd ⟨some ⟨g, 0, none⟩, l.length, cap⟩ 2).cells from hB4)
      obtain ⟨zs, hz, hy⟩ := HB5.out.hy
      have HY := Lib.hid (And.intro hz hy)
      have HNEW := Lib.hid (show IntsX (((w2.setCell ⟨g, k, none⟩ (.int .i64 v)).setCell ⟨x, 7, none⟩ (.slice (some ⟨g, 0, none⟩) l.length cap)).setRow y (r.setd ⟨some ⟨g, 0, none⟩, l.length, cap⟩ 2).cells) (newX (fun _ => False) w (((w2.setCell ⟨g, k, none⟩ (.int .i64 v)).setCell ⟨x, 7, none⟩ (.slice (some ⟨g, 0, none⟩) l.length cap)).setRow y (r.setd ⟨some ⟨g, 0, none⟩, l.length, cap⟩ 2).cells)) (.slice (some ⟨g, 0, none⟩) l.length cap) (l.set k v) from
        row_new (n := l.length) rfl (fun j hj => hcell j (by omega)) (by omega) hcap (.inr ⟨hgw, by simpa [World.setCell] using hglt⟩) (fun j => by rw [cell_setRow_other _ _ _ _ hgy]; show ((w2.setCell ⟨g, k, none⟩ (.int .i64 v)).setCell ⟨x, 7, none⟩ (.slice (some ⟨g, 0, none⟩) l.length cap)).cell? ⟨g, j, none⟩ = _; rw [cell_far (Ne.symm hgx)]))
      clear ho hb hB2 hB3 hB4 hz hy hcell hfr hB1 k_d HIN
      go_wp2_with (first
        | ((with_reducible change wpList _ _ _ _ _ (((w2.setCell ⟨g, k, none⟩ (.int .i64 v)).setCell ⟨x, 7, none⟩ (.slice (some ⟨g, 0, none⟩) l.length cap)))); refine wpList_load_row rfl 46 _ rfl x rfl 46 _ (0, 0) _ HB5.out.hx Tryd.underlying46 rfl rinfo ?_)
        | ((with_reducible change wpList _ _ _ _ _ (((w2.setCell ⟨g, k, none⟩ (.int .i64 v)).setCell ⟨x, 7, none⟩ (.slice (some ⟨g, 0, none⟩) l.length cap)))); refine wpList_store_row rfl 46 _ _ rfl y _ rfl rfl 46 zs HY.out.2 rinfo HY.out.1 (RF.ones _) ?_))
      (try simp only [Exit.inBlock, Exit.then]); refine bodyPost_ret (res_c1 rfl _ rfl HB5.out.row Tryd.underlying46 rfl rinfo) rfl ?_
      exact ⟨g, cap, rfl, HB5.out.end_, HNEW.out⟩
  · clear hp hq
    have hd : (r.d 3).v = .slice Ad l.length cd := hd
    unfold RF.v
    go_enter Tryd.func72, Tryd.ntmps72
    go_upto_region 0 with (fail)
    go_cut [5, 10] (fun p0 p1 wx => ∃ x y, p0 = .pointer (some ⟨x, 0, none⟩) ∧ p1 = .pointer (some ⟨y, 0, none⟩) ∧ Boxed 46 w wx x y r.cells)
    case first =>
      go_wp2_with fail
      go_meet
      exact ⟨_, _, rfl, rfl, boxed_new _ _ _ _ rfl⟩
    case rest =>
      obtain ⟨x, y, rfl, rfl, hB⟩ := hcut
      have k_d : wc.cell? ⟨x, 8, none⟩ = some (.slice Ad l.length cd) := (hB.hx.cell 8).trans (by rw [show r.cells[8]? = some (r.d 3).v from RF.cd r 3 (by omega), hd])
      have hB1 := Lib.hid hB
      clear hB hd
      go_wp2_with (at_builtin; go_loud (refine app_copy rfl _ _ rfl l rfl _ rfl (HIN.out _ hB1.out.bel) hl0 hl ?_))
      intro v' w2 ho hb
      have hB2 := Lib.hid (hB1.out.go hb)
      obtain ⟨g, cap, rfl, hg, hglt, hcap, hcell, hfr⟩ := own_pos ho hl0
      have hgx : g ≠ x := by have := hB1.out.hx.lt; omega
      have hgy : g ≠ y := by obtain ⟨zs, _, hy⟩ := hB1.out.hy; have := hy.lt; omega
      have hgw : w.heap.size ≤ g := by have := hB1.out.bel.size; omega
      obtain ⟨z0, hz0⟩ : ∃ z0, w2.cell? ⟨g, k, none⟩ = some z0 := ⟨_, (hcell k (by omega)).trans (nums_get l k hk)⟩
      have f_v : w2.frozen? ⟨g, k, none⟩ = false := hfr k
      have hB3 := Lib.hid (hB2.out.far k (.int .i64 v) hgx hgy hgw)
      have k3_d : (w2.setCell ⟨g, k, none⟩ (.int .i64 v)).cell? ⟨x, 8, none⟩ = some (r.d 3).v := (hB3.out.hx.cell 8).trans (RF.cd r 3 (by omega))
      have f3_d := hB3.out.hx.fr 8
      have hB4 := hB3.out.set 8 (Sl.v ⟨some ⟨g, 0, none⟩, l.length, cap⟩)
      rw [show r.cells.setIfInBounds 8 (Sl.v ⟨some ⟨g, 0, none⟩, l.length, cap⟩) = (r.setd ⟨some ⟨g, 0, none⟩, l.length, cap⟩ 3).cells from RF.cset _ _ 3 (by omega)] at hB4
      have HB5 := Lib.hid (show Boxed 46 w ((w2.setCell ⟨g, k, none⟩ (.int .i64 v)).setCell ⟨x, 8, none⟩ (.slice (some ⟨g, 0, none⟩) l.length cap)) x y (r.setd ⟨some ⟨g, 0, none⟩, l.length, cap⟩ 3).cells from hB4)
      obtain ⟨zs, hz, hy⟩ := HB5.out.hy
      have HY := Lib.hid (And.intro hz hy)
      have HNEW := Lib.hid (show IntsX (((w2.setCell ⟨g, k, none⟩ (.int .i64 v)).setCell ⟨x, 8, none⟩ (.slice (some ⟨g, 0, none⟩) l.length cap)).setRow y (r.setd ⟨some ⟨g, 0, none⟩, l.length, cap⟩ 3).cells) (newX (fun _ => False) w (((w2.setCell ⟨g, k, none⟩ (.int .i64 v)).setCell ⟨x, 8, none⟩ (.slice (some ⟨g, 0, none⟩) l.length cap)).setRow y (r.setd ⟨some ⟨g, 0, none⟩, l.length, cap⟩ 3).cells)) (.slice (some ⟨g, 0, none⟩) l.length cap) (l.set k v) from
        row_new (n := l.length) rfl (fun j hj => hcell j (by omega)) (by omega) hcap (.inr ⟨hgw, by simpa [World.setCell] using hglt⟩) (fun j => by rw [cell_setRow_other _ _ _ _ hgy]; show ((w2.setCell ⟨g, k, none⟩ (.int .i64 v)).setCell ⟨x, 8, none⟩ (.slice (some ⟨g, 0, none⟩) l.length cap)).cell? ⟨g, j, none⟩ = _; rw [cell_far (Ne.symm hgx)]))
      clear ho hb hB2 hB3 hB4 hz hy hcell hfr hB1 k_d HIN
      go_wp2_with (first
        | ((with_reducible change wpList _ _ _ _ _ (((w2.setCell ⟨g, k, none⟩ (.int .i64 v)).setCell ⟨x, 8, none⟩ (.slice (some ⟨g, 0, none⟩) l.length cap)))); refine wpList_load_row rfl 46 _ rfl x rfl 46 _ (0, 0) _ HB5.out.hx Tryd.underlying46 rfl rinfo ?_)
        | ((with_reducible change wpList _ _ _ _ _ (((w2.setCell ⟨g, k, none⟩ (.int .i64 v)).setCell ⟨x, 8, none⟩ (.slice (some ⟨g, 0, none⟩) l.length cap)))); refine wpList_store_row rfl 46 _ _ rfl y _ rfl rfl 46 zs HY.out.2 rinfo HY.out.1 (RF.ones _) ?_))
      (try simp only [Exit.inBlock, Exit.then]); refine bodyPost_ret (res_c1 rfl _ rfl HB5.out.row Tryd.underlying46 rfl rinfo) rfl ?_
      exact ⟨g, cap, rfl, HB5.out.end_, HNEW.out⟩
end Go.Proofs.YtmcelldklmjlkaaDoor
