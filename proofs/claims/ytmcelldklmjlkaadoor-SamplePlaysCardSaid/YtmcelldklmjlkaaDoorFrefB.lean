/- The reference's register: Read, Drop, Left. -/
import Derived.Test.YtmcelldklmjlkaaDoorFrefA
import Derived.Deep.CutBlock
import Derived.StillTailTactics
namespace Go.Proofs.YtmcelldklmjlkaaDoor
open Go.RowKit

set_option maxRecDepth 100000 in
set_option maxHeartbeats 3200000 in
theorem refread_any {w : World} {X : Nat → Prop} {r : RF} {s : FS} (h : RefIn w X r s) :
    Calls Tryd.prog 41 #[r.v] w fun e w' => ∃ r', e = .returned (.tuple #[RF.v r', .int .i64 s.rd.2]) ∧ Below w.heap.size w w' ∧ RefIn w' (newX X w w') r' s.rd.1 := by
  by_cases h0 : s.ow = 0
  · rw [show s.rd = ({ s with ow := s.W + 3, ol := [] }, 0) by simp [FS.rd, h0]]
    have hp : r.rd = false := by rw [h.rd]; simp [h0]
    unfold RF.v
    go_enter Tryd.func41, Tryd.ntmps41
    go_upto_region 0 with (fail)
    go_cut [1, 2, 3] (fun p0 p1 p2 wx => ∃ x y, p0 = .pointer (some ⟨x, 0, none⟩) ∧ p1 = .pointer (some ⟨y, 0, none⟩) ∧ p2 = .int .i64 0 ∧ Boxed 46 w wx x y r.cells)
    case first =>
      go_wp2_with fail
      go_meet
      exact ⟨_, _, rfl, rfl, rfl, boxed_new _ _ _ _ rfl⟩
    case rest =>
      obtain ⟨x, y, rfl, rfl, rfl, hB⟩ := hcut
      have HR := Lib.hid (show ∀ w', Below w.heap.size w w' → RefIn w' (newX X w w') r s from fun w' hb => h.go hb)
      have k_rd : wc.cell? ⟨x, 10, none⟩ = some (.bool r.rd) := (hB.hx.cell 10).trans rfl
      rw [hp] at k_rd
      have k_se : wc.cell? ⟨x, 12, none⟩ = some (.int .i64 r.se) := (hB.hx.cell 12).trans rfl
      have k_out : wc.cell? ⟨x, 18, none⟩ = some (.slice r.out.A r.out.n r.out.c) := (hB.hx.cell 18).trans rfl
      have f_rd := hB.hx.fr 10
      have f_se := hB.hx.fr 12
      have f_out := hB.hx.fr 18
      clear h hp
      have HB2 := Lib.hid (show Boxed 46 w ((((wc.setCell ⟨x, 10, none⟩ (.bool true)).setCell ⟨x, 12, none⟩ (.int .i64 0)).setCell ⟨x, 18, none⟩ (.slice none 0 0))) x y ({ r with rd := true, se := 0, out := ⟨none, 0, 0⟩ } : RF).cells from (((hB.set (10) (.bool true)).set (12) (.int .i64 0)).set (18) (.slice none 0 0)))
      obtain ⟨zs, hz, hy⟩ := HB2.out.hy
      have HY := Lib.hid (And.intro hz hy)
      clear hB hz hy
      go_wp2_with (first
        | ((with_reducible change wpList _ _ _ _ _ ((((wc.setCell ⟨x, 10, none⟩ (.bool true)).setCell ⟨x, 12, none⟩ (.int .i64 0)).setCell ⟨x, 18, none⟩ (.slice none 0 0)))); refine wpList_load_row rfl 46 _ rfl x rfl 46 _ (0, 0) _ HB2.out.hx Tryd.underlying46 rfl rinfo ?_)
        | ((with_reducible change wpList _ _ _ _ _ ((((wc.setCell ⟨x, 10, none⟩ (.bool true)).setCell ⟨x, 12, none⟩ (.int .i64 0)).setCell ⟨x, 18, none⟩ (.slice none 0 0)))); refine wpList_store_row rfl 46 _ _ rfl y _ rfl rfl 46 zs HY.out.2 rinfo HY.out.1 (RF.ones _) ?_))
      (try simp only [Exit.inBlock, Exit.then]); refine bodyPost_ret (res_c2 rfl _ rfl HB2.out.row Tryd.underlying46 rfl rinfo) rfl ?_
      exact ⟨_, rfl, HB2.out.end_, refin_read (HR.out _ HB2.out.end_)⟩
  · rw [show s.rd = (s, 1) by simp [FS.rd, h0]]
    have hp : r.rd = true := h.rdt h0
    unfold RF.v
    go_enter Tryd.func41, Tryd.ntmps41
    go_upto_region 0 with (fail)
    go_cut [1, 2, 3] (fun p0 p1 p2 wx => ∃ x y, p0 = .pointer (some ⟨x, 0, none⟩) ∧ p1 = .pointer (some ⟨y, 0, none⟩) ∧ p2 = .int .i64 0 ∧ Boxed 46 w wx x y r.cells)
    case first =>
      go_wp2_with fail
      go_meet
      exact ⟨_, _, rfl, rfl, rfl, boxed_new _ _ _ _ rfl⟩
    case rest =>
      obtain ⟨x, y, rfl, rfl, rfl, hB⟩ := hcut
      have HR := Lib.hid (show ∀ w', Below w.heap.size w w' → RefIn w' (newX X w w') r s from fun w' hb => h.go hb)
      have k_rd : wc.cell? ⟨x, 10, none⟩ = some (.bool r.rd) := (hB.hx.cell 10).trans rfl
      rw [hp] at k_rd
      clear h hp
      have HB2 := Lib.hid (show Boxed 46 w (wc) x y (r : RF).cells from hB)
      obtain ⟨zs, hz, hy⟩ := HB2.out.hy
      have HY := Lib.hid (And.intro hz hy)
      clear hB hz hy
      go_wp2_with (first
        | ((with_reducible change wpList _ _ _ _ _ (wc)); refine wpList_load_row rfl 46 _ rfl x rfl 46 _ (0, 0) _ HB2.out.hx Tryd.underlying46 rfl rinfo ?_)
        | ((with_reducible change wpList _ _ _ _ _ (wc)); refine wpList_store_row rfl 46 _ _ rfl y _ rfl rfl 46 zs HY.out.2 rinfo HY.out.1 (RF.ones _) ?_))
      (try simp only [Exit.inBlock, Exit.then]); refine bodyPost_ret (res_c2 rfl _ rfl HB2.out.row Tryd.underlying46 rfl rinfo) rfl ?_
      exact ⟨_, rfl, HB2.out.end_, HR.out _ HB2.out.end_⟩
set_option maxRecDepth 100000 in
set_option maxHeartbeats 3200000 in
theorem refdrop_any {w : World} {X : Nat → Prop} {r : RF} {s : FS} (h : RefIn w X r s) (b : Bool) :
    Calls Tryd.prog 45 #[r.v, .bool b] w fun e w' => ∃ r', e = .returned (.tuple #[RF.v r', .bool (decide (0 < s.left b))]) ∧ Below w.heap.size w w' ∧ RefIn w' (newX X w w') r' (s.drop b) := by
  cases b
  · obtain ⟨dd, hdd⟩ : ∃ dd, dd = decide (0 < s.left false) := ⟨_, rfl⟩
    rw [← hdd]
    have hp : r.rd = dd := by
      rw [hdd]
      rw [h.rd]
      simp only [FS.left]
      by_cases h0 : s.ow = 0
      · simp [h0]
      · have : 0 < s.ow := by omega
        simp [h0, this]
    unfold RF.v
    go_enter Tryd.func45, Tryd.ntmps45
    go_upto_region 0 with (fail)
    go_cut [2, 4, 5] (fun p0 p1 p2 wx => ∃ x y, p0 = .pointer (some ⟨x, 0, none⟩) ∧ p1 = .pointer (some ⟨y, 0, none⟩) ∧ p2 = .bool false ∧ Boxed 46 w wx x y r.cells)
    case first =>
      go_wp2_with fail
      go_meet
      exact ⟨_, _, rfl, rfl, rfl, boxed_new _ _ _ _ rfl⟩
    case rest =>
      obtain ⟨x, y, rfl, rfl, rfl, hB⟩ := hcut
      have HR := Lib.hid (show ∀ w', Below w.heap.size w w' → RefIn w' (newX X w w') r s from fun w' hb => h.go hb)
      have k_rd : wc.cell? ⟨x, 10, none⟩ = some (.bool r.rd) := (hB.hx.cell 10).trans rfl
      rw [hp] at k_rd
      have f_rd := hB.hx.fr 10
      have HDD := Lib.hid hdd
      clear h hp hdd HDD
      have HB2 := Lib.hid (show Boxed 46 w ((wc.setCell ⟨x, 10, none⟩ (.bool false))) x y ({ r with rd := false } : RF).cells from (hB.set (10) (.bool false)))
      obtain ⟨zs, hz, hy⟩ := HB2.out.hy
      have HY := Lib.hid (And.intro hz hy)
      clear hB hz hy
      go_wp2_with (first
        | ((with_reducible change wpList _ _ _ _ _ ((wc.setCell ⟨x, 10, none⟩ (.bool false)))); refine wpList_load_row rfl 46 _ rfl x rfl 46 _ (0, 0) _ HB2.out.hx Tryd.underlying46 rfl rinfo ?_)
        | ((with_reducible change wpList _ _ _ _ _ ((wc.setCell ⟨x, 10, none⟩ (.bool false)))); refine wpList_store_row rfl 46 _ _ rfl y _ rfl rfl 46 zs HY.out.2 rinfo HY.out.1 (RF.ones _) ?_))
      (try simp only [Exit.inBlock, Exit.then]); refine bodyPost_ret (res_c2 rfl _ rfl HB2.out.row Tryd.underlying46 rfl rinfo) rfl ?_
      exact ⟨_, rfl, HB2.out.end_, refin_dropR (HR.out _ HB2.out.end_)⟩
  · obtain ⟨dd, hdd⟩ : ∃ dd, dd = decide (0 < s.left true) := ⟨_, rfl⟩
    rw [← hdd]
    have hp : r.wr = dd := by
      rw [hdd]
      rw [h.wr]
      simp only [FS.left]
      by_cases h0 : s.iw = 0
      · simp [h0]
      · have : 0 < s.iw := by omega
        simp [h0, this]
    unfold RF.v
    go_enter Tryd.func45, Tryd.ntmps45
    go_upto_region 0 with (fail)
    go_cut [2, 4, 5] (fun p0 p1 p2 wx => ∃ x y, p0 = .pointer (some ⟨x, 0, none⟩) ∧ p1 = .pointer (some ⟨y, 0, none⟩) ∧ p2 = .bool false ∧ Boxed 46 w wx x y r.cells)
    case first =>
      go_wp2_with fail
      go_meet
      exact ⟨_, _, rfl, rfl, rfl, boxed_new _ _ _ _ rfl⟩
    case rest =>
      obtain ⟨x, y, rfl, rfl, rfl, hB⟩ := hcut
      have HR := Lib.hid (show ∀ w', Below w.heap.size w w' → RefIn w' (newX X w w') r s from fun w' hb => h.go hb)
      have k_wr : wc.cell? ⟨x, 9, none⟩ = some (.bool r.wr) := (hB.hx.cell 9).trans rfl
      rw [hp] at k_wr
      have f_wr := hB.hx.fr 9
      have HDD := Lib.hid hdd
      clear h hp hdd HDD
      have HB2 := Lib.hid (show Boxed 46 w ((wc.setCell ⟨x, 9, none⟩ (.bool false))) x y ({ r with wr := false } : RF).cells from (hB.set (9) (.bool false)))
      obtain ⟨zs, hz, hy⟩ := HB2.out.hy
      have HY := Lib.hid (And.intro hz hy)
      clear hB hz hy
      go_wp2_with (first
        | ((with_reducible change wpList _ _ _ _ _ ((wc.setCell ⟨x, 9, none⟩ (.bool false)))); refine wpList_load_row rfl 46 _ rfl x rfl 46 _ (0, 0) _ HB2.out.hx Tryd.underlying46 rfl rinfo ?_)
        | ((with_reducible change wpList _ _ _ _ _ ((wc.setCell ⟨x, 9, none⟩ (.bool false)))); refine wpList_store_row rfl 46 _ _ rfl y _ rfl rfl 46 zs HY.out.2 rinfo HY.out.1 (RF.ones _) ?_))
      (try simp only [Exit.inBlock, Exit.then]); refine bodyPost_ret (res_c2 rfl _ rfl HB2.out.row Tryd.underlying46 rfl rinfo) rfl ?_
      exact ⟨_, rfl, HB2.out.end_, refin_dropW (HR.out _ HB2.out.end_)⟩
end Go.Proofs.YtmcelldklmjlkaaDoor
