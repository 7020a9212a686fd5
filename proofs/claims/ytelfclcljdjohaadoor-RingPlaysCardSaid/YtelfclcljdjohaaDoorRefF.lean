/- The reference's ring: a pop's accesses. -/
import Derived.Test.YtelfclcljdjohaaDoorRefB
import Derived.Test.YtelfclcljdjohaaDoorRefC
import Derived.Deep.RegionHeld3
import Derived.Deep.MidRow
namespace Go.Proofs.YtelfclcljdjohaaDoor
open Go.RowKit

set_option maxRecDepth 100000 in
set_option maxHeartbeats 3200000 in
theorem rpop1 {w : World} {X : Nat → Prop} {r : RF} {s : RS} (h : RefIn w X r s) (_ : s.ok) (h1 : s.oa = 1) :
    Calls Tryd.prog 46 #[r.v] w fun e w' => ∃ r', e = .returned (.tuple #[RF.v r', .bool s.stepR.2.2.1, .int .i64 s.stepR.2.2.2]) ∧ Below w.heap.size w w' ∧ RefIn w' (newX X w w') r' s.stepR.1 := by
  rw [sr1 h1]
  have htk := h.c1 h1
  unfold RF.v
  go_enter Tryd.func46, Tryd.ntmps46
  go_upto_region 0 with (fail)
  go_cut [1, 2, 3, 4] (fun p0 p1 p2 p3 wx => ∃ x y, p0 = .pointer (some ⟨x, 0, none⟩) ∧ p1 = .pointer (some ⟨y, 0, none⟩) ∧ p2 = .bool false ∧ p3 = .int .i64 0 ∧ Boxed 51 w wx x y r.cells)
  case first =>
    go_wp2_with fail
    go_meet
    exact ⟨_, _, rfl, rfl, rfl, rfl, boxed_new _ _ _ _ rfl⟩
  case rest =>
    obtain ⟨x, y, rfl, rfl, rfl, rfl, hB⟩ := hcut
    have HR := Lib.hid (show ∀ w', Below w.heap.size w w' → RefIn w' (newX X w w') r s from fun w' hb => h.go hb)
    have k_tk : wc.cell? ⟨x, 15, none⟩ = some (.int .i64 r.tk) := (hB.hx.cell 15).trans rfl
    have k_T : wc.cell? ⟨x, 3, none⟩ = some (.int .i64 r.T) := (hB.hx.cell 3).trans rfl
    have f_tk := hB.hx.fr 15
    have f_ot := hB.hx.fr 19
    have k_ot : wc.cell? ⟨x, 19, none⟩ = some (.int .i64 r.ot) := (hB.hx.cell 19).trans rfl
    rw [htk] at k_tk
    clear h htk
    have HB2 := Lib.hid (show Boxed 51 w ((wc.setCell ⟨x, 15, none⟩ (.int .i64 1)).setCell ⟨x, 19, none⟩ (.int .i64 r.T)) x y ({ r with tk := 1, ot := r.T } : RF).cells from (hB.set 15 (.int .i64 1)).set 19 (.int .i64 r.T))
    obtain ⟨zs, hz, hy⟩ := HB2.out.hy
    have HY := Lib.hid (And.intro hz hy)
    clear hB hz hy
    go_wp2_with (first
      | (refine wpList_load_row rfl 51 _ rfl x rfl 51 _ (0, 0) _ HB2.out.hx Tryd.underlying51 rfl rinfo ?_)
      | (refine wpList_store_row rfl 51 _ _ rfl y _ rfl rfl 51 zs HY.out.2 rinfo HY.out.1 (RF.ones _) ?_))
    (try simp only [Exit.inBlock, Exit.then]); refine bodyPost_ret (res_c3 rfl _ rfl HB2.out.row Tryd.underlying51 rfl rinfo) rfl ?_
    exact ⟨_, rfl, HB2.out.end_, refin_r1 (HR.out _ HB2.out.end_) h1⟩
set_option maxRecDepth 100000 in
set_option maxHeartbeats 3200000 in
theorem rpop2 {w : World} {X : Nat → Prop} {r : RF} {s : RS} (h : RefIn w X r s) (_ : s.ok) (h2 : s.oa = 2) :
    Calls Tryd.prog 46 #[r.v] w fun e w' => ∃ r', e = .returned (.tuple #[RF.v r', .bool s.stepR.2.2.1, .int .i64 s.stepR.2.2.2]) ∧ Below w.heap.size w w' ∧ RefIn w' (newX X w w') r' s.stepR.1 := by
  rw [sr2 h2]
  obtain ⟨htk, hot⟩ := h.c2 h2
  have hH := h.H
  by_cases hd : s.hd = s.ot
  · rw [if_pos hd]
    unfold RF.v
    go_enter Tryd.func46, Tryd.ntmps46
    go_upto_region 0 with (fail)
    go_cut [1, 2, 3, 4] (fun p0 p1 p2 p3 wx => ∃ x y, p0 = .pointer (some ⟨x, 0, none⟩) ∧ p1 = .pointer (some ⟨y, 0, none⟩) ∧ p2 = .bool false ∧ p3 = .int .i64 0 ∧ Boxed 51 w wx x y r.cells)
    case first =>
      go_wp2_with fail
      go_meet
      exact ⟨_, _, rfl, rfl, rfl, rfl, boxed_new _ _ _ _ rfl⟩
    case rest =>
      obtain ⟨x, y, rfl, rfl, rfl, rfl, hB⟩ := hcut
      have HR := Lib.hid (show ∀ w', Below w.heap.size w w' → RefIn w' (newX X w w') r s from fun w' hb => h.go hb)
      have k_H : wc.cell? ⟨x, 2, none⟩ = some (.int .i64 r.H) := (hB.hx.cell 2).trans rfl
      have k_tk : wc.cell? ⟨x, 15, none⟩ = some (.int .i64 r.tk) := (hB.hx.cell 15).trans rfl
      have k_ot : wc.cell? ⟨x, 19, none⟩ = some (.int .i64 r.ot) := (hB.hx.cell 19).trans rfl
      have k_oh : wc.cell? ⟨x, 18, none⟩ = some (.int .i64 r.oh) := (hB.hx.cell 18).trans rfl
      have k_po : wc.cell? ⟨x, 13, none⟩ = some (.bool r.po) := (hB.hx.cell 13).trans rfl
      have f_tk := hB.hx.fr 15
      have f_oh := hB.hx.fr 18
      have f_po := hB.hx.fr 13
      rw [htk] at k_tk
      rw [hot] at k_ot
      rw [hH] at k_H
      have hq : ((s.hd : Int) == (s.ot : Int)) = true := by simp [hd]
      clear h htk hot hH hd
      have HB2 := Lib.hid (show Boxed 51 w (((wc.setCell ⟨x, 15, none⟩ (.int .i64 2)).setCell ⟨x, 18, none⟩ (.int .i64 (s.hd : Int))).setCell ⟨x, 13, none⟩ (.bool false)) x y ({ r with tk := 2, oh := (s.hd : Int), po := false } : RF).cells from ((hB.set 15 (.int .i64 2)).set 18 (.int .i64 (s.hd : Int))).set 13 (.bool false))
      obtain ⟨zs, hz, hy⟩ := HB2.out.hy
      have HY := Lib.hid (And.intro hz hy)
      clear hB hz hy
      go_wp2_with (first
        | (refine wpList_load_row rfl 51 _ rfl x rfl 51 _ (0, 0) _ HB2.out.hx Tryd.underlying51 rfl rinfo ?_)
        | (refine wpList_store_row rfl 51 _ _ rfl y _ rfl rfl 51 zs HY.out.2 rinfo HY.out.1 (RF.ones _) ?_))
      (try simp only [Exit.inBlock, Exit.then]); refine bodyPost_ret (res_c3 rfl _ rfl HB2.out.row Tryd.underlying51 rfl rinfo) rfl ?_
      exact ⟨_, rfl, HB2.out.end_, refin_r2a (HR.out _ HB2.out.end_) _⟩
  · rw [if_neg hd]
    unfold RF.v
    go_enter Tryd.func46, Tryd.ntmps46
    go_upto_region 0 with (fail)
    go_cut [1, 2, 3, 4] (fun p0 p1 p2 p3 wx => ∃ x y, p0 = .pointer (some ⟨x, 0, none⟩) ∧ p1 = .pointer (some ⟨y, 0, none⟩) ∧ p2 = .bool false ∧ p3 = .int .i64 0 ∧ Boxed 51 w wx x y r.cells)
    case first =>
      go_wp2_with fail
      go_meet
      exact ⟨_, _, rfl, rfl, rfl, rfl, boxed_new _ _ _ _ rfl⟩
    case rest =>
      obtain ⟨x, y, rfl, rfl, rfl, rfl, hB⟩ := hcut
      have HR := Lib.hid (show ∀ w', Below w.heap.size w w' → RefIn w' (newX X w w') r s from fun w' hb => h.go hb)
      have k_H : wc.cell? ⟨x, 2, none⟩ = some (.int .i64 r.H) := (hB.hx.cell 2).trans rfl
      have k_tk : wc.cell? ⟨x, 15, none⟩ = some (.int .i64 r.tk) := (hB.hx.cell 15).trans rfl
      have k_ot : wc.cell? ⟨x, 19, none⟩ = some (.int .i64 r.ot) := (hB.hx.cell 19).trans rfl
      have k_oh : wc.cell? ⟨x, 18, none⟩ = some (.int .i64 r.oh) := (hB.hx.cell 18).trans rfl
      have k_po : wc.cell? ⟨x, 13, none⟩ = some (.bool r.po) := (hB.hx.cell 13).trans rfl
      have f_tk := hB.hx.fr 15
      have f_oh := hB.hx.fr 18
      have f_po := hB.hx.fr 13
      rw [htk] at k_tk
      rw [hot] at k_ot
      rw [hH] at k_H
      have hq : ((s.hd : Int) == (s.ot : Int)) = false := by simp; omega
      clear h htk hot hH hd
      have HB2 := Lib.hid (show Boxed 51 w ((wc.setCell ⟨x, 15, none⟩ (.int .i64 2)).setCell ⟨x, 18, none⟩ (.int .i64 (s.hd : Int))) x y ({ r with tk := 2, oh := (s.hd : Int) } : RF).cells from ((hB.set 15 (.int .i64 2)).set 18 (.int .i64 (s.hd : Int))))
      obtain ⟨zs, hz, hy⟩ := HB2.out.hy
      have HY := Lib.hid (And.intro hz hy)
      clear hB hz hy
      go_wp2_with (first
        | (refine wpList_load_row rfl 51 _ rfl x rfl 51 _ (0, 0) _ HB2.out.hx Tryd.underlying51 rfl rinfo ?_)
        | (refine wpList_store_row rfl 51 _ _ rfl y _ rfl rfl 51 zs HY.out.2 rinfo HY.out.1 (RF.ones _) ?_))
      (try simp only [Exit.inBlock, Exit.then]); refine bodyPost_ret (res_c3 rfl _ rfl HB2.out.row Tryd.underlying51 rfl rinfo) rfl ?_
      exact ⟨_, rfl, HB2.out.end_, refin_r2b (HR.out _ HB2.out.end_) h2 _ rfl⟩
set_option maxRecDepth 100000 in
set_option maxHeartbeats 3200000 in
theorem rpop3b {w : World} {X : Nat → Prop} {r : RF} {s : RS} (h : RefIn w X r s) (hk : s.ok) (h3 : s.oa = 3) (hn : s.ol.length = s.W) :
    Calls Tryd.prog 46 #[r.v] w fun e w' => ∃ r', e = .returned (.tuple #[RF.v r', .bool s.stepR.2.2.1, .int .i64 s.stepR.2.2.2]) ∧ Below w.heap.size w w' ∧ RefIn w' (newX X w w') r' s.stepR.1 ∧ r'.out = r.out := by
  rw [sr3 h3, if_neg (by omega)]
  obtain ⟨htk, hoh⟩ := h.c3 h3
  have hD := h.D
  have hW := h.W
  rw [hn] at htk
  have hP1 := hk.p1
  have hP8 := hk.p8
  have hW1 := hk.w1
  have hW6 := hk.w6
  have hit := hk.oh
  have ht : ((s.oh : Int) + 1).tmod (2 * (s.P : Int)) = ((nextOf s.P s.oh : Nat) : Int) := by rw [Int.tmod_eq_emod_of_nonneg (by omega), next_eq]
  have hx := nextOf_lt (a := s.oh) hP1
  have w0 : IntKind.i64.wrap ((s.oh : Int) + 1) = (s.oh : Int) + 1 := by rw [IntKind.wrap_i64]; omega
  have w1 : IntKind.i64.wrap (2 * (s.P : Int)) = 2 * (s.P : Int) := by rw [IntKind.wrap_i64]; omega
  have w2 : IntKind.i64.wrap ((nextOf s.P s.oh : Nat) : Int) = ((nextOf s.P s.oh : Nat) : Int) := by rw [IntKind.wrap_i64]; omega
  have hne : ¬ 2 * (s.P : Int) = 0 := by omega
  have hne1 : ¬ (s.P : Int) = 0 := by omega
  have hne2 : ¬ s.P = 0 := by omega
  have b0 : ((2 + (s.W : Int)) == 0) = false := by simp; omega
  have b1 : ((2 + (s.W : Int)) == 1) = false := by simp; omega
  have b2 : ¬ 2 + (s.W : Int) < 2 + (s.W : Int) := by omega
  unfold RF.v
  go_enter Tryd.func46, Tryd.ntmps46
  go_upto_region 0 with (fail)
  go_cut [1, 2, 3, 4] (fun p0 p1 p2 p3 wx => ∃ x y, p0 = .pointer (some ⟨x, 0, none⟩) ∧ p1 = .pointer (some ⟨y, 0, none⟩) ∧ p2 = .bool false ∧ p3 = .int .i64 0 ∧ Boxed 51 w wx x y r.cells)
  case first =>
    go_wp2_with fail
    go_meet
    exact ⟨_, _, rfl, rfl, rfl, rfl, boxed_new _ _ _ _ rfl⟩
  case rest =>
    obtain ⟨x, y, rfl, rfl, rfl, rfl, hB⟩ := hcut
    have HR := Lib.hid (show ∀ w', Below w.heap.size w w' → RefIn w' (newX X w w') r s from fun w' hb => h.go hb)
    have HK := Lib.hid hk
    have k_D : wc.cell? ⟨x, 0, none⟩ = some (.int .i64 r.D) := (hB.hx.cell 0).trans rfl
    have k_W : wc.cell? ⟨x, 1, none⟩ = some (.int .i64 r.W) := (hB.hx.cell 1).trans rfl
    have k_H : wc.cell? ⟨x, 2, none⟩ = some (.int .i64 r.H) := (hB.hx.cell 2).trans rfl
    have k_po : wc.cell? ⟨x, 13, none⟩ = some (.bool r.po) := (hB.hx.cell 13).trans rfl
    have k_tk : wc.cell? ⟨x, 15, none⟩ = some (.int .i64 r.tk) := (hB.hx.cell 15).trans rfl
    have k_oh : wc.cell? ⟨x, 18, none⟩ = some (.int .i64 r.oh) := (hB.hx.cell 18).trans rfl
    have f_tk := hB.hx.fr 15
    have f_H := hB.hx.fr 2
    have f_po := hB.hx.fr 13
    rw [htk] at k_tk
    rw [hD] at k_D
    rw [hW] at k_W
    rw [hoh] at k_oh
    clear h htk hoh hD hW hx hit hk hn
    have HB2 := Lib.hid (show Boxed 51 w (((wc.setCell ⟨x, 15, none⟩ (.int .i64 (2 + (s.W : Int) + 1))).setCell ⟨x, 2, none⟩ (.int .i64 ((nextOf s.P s.oh : Nat) : Int))).setCell ⟨x, 13, none⟩ (.bool false)) x y ({ r with tk := 2 + (s.W : Int) + 1, H := ((nextOf s.P s.oh : Nat) : Int), po := false } : RF).cells from ((hB.set 15 (.int .i64 (2 + (s.W : Int) + 1))).set 2 (.int .i64 ((nextOf s.P s.oh : Nat) : Int))).set 13 (.bool false))
    obtain ⟨zs, hz, hy⟩ := HB2.out.hy
    have HY := Lib.hid (And.intro hz hy)
    clear hB hz hy
    go_wp2_with (first
      | (refine wpList_load_row rfl 51 _ rfl x rfl 51 _ (0, 0) _ HB2.out.hx Tryd.underlying51 rfl rinfo ?_)
      | (refine wpList_store_row rfl 51 _ _ rfl y _ rfl rfl 51 zs HY.out.2 rinfo HY.out.1 (RF.ones _) ?_))
    (try simp only [Exit.inBlock, Exit.then]); refine bodyPost_ret (res_c3 rfl _ rfl HB2.out.row Tryd.underlying51 rfl rinfo) rfl ?_
    exact ⟨_, rfl, HB2.out.end_, refin_r3b (HR.out _ HB2.out.end_) HK.out _, rfl⟩
end Go.Proofs.YtelfclcljdjohaaDoor
