/- The reference's register: Step, but for the words read. -/
import Derived.Test.YtdhbiogcaekbbaaDoorTrefA
import Derived.Deep.CutBlock
import Derived.StillTailTactics
namespace Go.Proofs.YtdhbiogcaekbbaaDoor
open Go.RowKit

set_option maxRecDepth 100000 in
set_option maxHeartbeats 3200000 in
theorem tstep1 {w : World} {X : Nat → Prop} {r : RF} {s : TS} (h : RefIn w X r s) (_ : s.fine) (h0 : s.ia = 0) :
    Calls Tryd.prog 26 #[r.v, .bool true] w fun e w' => ∃ r' A c, e = .returned (.tuple #[RF.v r', .slice A (s.step true).2.1.length c, .bool (s.step true).2.2.1, .int .i64 (s.step true).2.2.2]) ∧ Below w.heap.size w w' ∧ RefIn w' (newX X w w') r' (s.step true).1 ∧ IntsX w' (newX X w w') (.slice A (s.step true).2.1.length c) (s.step true).2.1 := by
  rw [show s.step true = (s, [], false, 2) by simp [TS.step, TS.stepW, h0]]
  have hp : r.wr = false := by rw [h.wr]; simp [TS.busy, h0]
  unfold RF.v
  go_enter Tryd.func26, Tryd.ntmps26
  go_upto_region 0 with (fail)
  go_cut [2, 4, 5, 6, 7] (fun p0 p1 p2 p3 p4 wx => ∃ x y, p0 = .pointer (some ⟨x, 0, none⟩) ∧ p1 = .pointer (some ⟨y, 0, none⟩) ∧ p2 = .slice none 0 0 ∧ p3 = .bool false ∧ p4 = .int .i64 0 ∧ Boxed 50 w wx x y r.cells)
  case first =>
    go_wp2_with fail
    go_meet
    exact ⟨_, _, rfl, rfl, rfl, rfl, rfl, boxed_new _ _ _ _ rfl⟩
  case rest =>
    obtain ⟨x, y, rfl, rfl, rfl, rfl, rfl, hB⟩ := hcut
    have HR := Lib.hid (show ∀ w', Below w.heap.size w w' → RefIn w' (newX X w w') r s from fun w' hb => h.go hb)
    have k_wr : wc.cell? ⟨x, 7, none⟩ = some (.bool r.wr) := (hB.hx.cell 7).trans rfl
    rw [hp] at k_wr
    clear h hp
    have HB2 := Lib.hid (show Boxed 50 w (wc) x y (r : RF).cells from hB)
    obtain ⟨zs, hz, hy⟩ := HB2.out.hy
    have HY := Lib.hid (And.intro hz hy)
    clear hB hz hy
    go_wp2_with (first
      | ((with_reducible change wpList _ _ _ _ _ (wc)); refine wpList_load_row rfl 50 _ rfl x rfl 50 _ (0, 0) _ HB2.out.hx Tryd.underlying50 rfl rinfo ?_)
      | ((with_reducible change wpList _ _ _ _ _ (wc)); refine wpList_store_row rfl 50 _ _ rfl y _ rfl rfl 50 zs HY.out.2 rinfo HY.out.1 (RF.ones _) ?_))
    (try simp only [Exit.inBlock, Exit.then]); refine bodyPost_ret (res_c4 rfl _ rfl HB2.out.row Tryd.underlying50 rfl rinfo) rfl ?_
    exact ⟨_, none, 0, rfl, HB2.out.end_, HR.out _ HB2.out.end_, IntsX.nil _ _⟩
set_option maxRecDepth 100000 in
set_option maxHeartbeats 3200000 in
theorem tstep4 {w : World} {X : Nat → Prop} {r : RF} {s : TS} (h : RefIn w X r s) (_ : s.fine) (h0 : s.oa = 0) :
    Calls Tryd.prog 26 #[r.v, .bool false] w fun e w' => ∃ r' A c, e = .returned (.tuple #[RF.v r', .slice A (s.step false).2.1.length c, .bool (s.step false).2.2.1, .int .i64 (s.step false).2.2.2]) ∧ Below w.heap.size w w' ∧ RefIn w' (newX X w w') r' (s.step false).1 ∧ IntsX w' (newX X w w') (.slice A (s.step false).2.1.length c) (s.step false).2.1 := by
  rw [show s.step false = (s, [], false, 2) by simp [TS.step, TS.stepR, h0]]
  have hp : r.rd = false := by rw [h.rd]; simp [TS.busy, h0]
  unfold RF.v
  go_enter Tryd.func26, Tryd.ntmps26
  go_upto_region 0 with (fail)
  go_cut [2, 4, 5, 6, 7] (fun p0 p1 p2 p3 p4 wx => ∃ x y, p0 = .pointer (some ⟨x, 0, none⟩) ∧ p1 = .pointer (some ⟨y, 0, none⟩) ∧ p2 = .slice none 0 0 ∧ p3 = .bool false ∧ p4 = .int .i64 0 ∧ Boxed 50 w wx x y r.cells)
  case first =>
    go_wp2_with fail
    go_meet
    exact ⟨_, _, rfl, rfl, rfl, rfl, rfl, boxed_new _ _ _ _ rfl⟩
  case rest =>
    obtain ⟨x, y, rfl, rfl, rfl, rfl, rfl, hB⟩ := hcut
    have HR := Lib.hid (show ∀ w', Below w.heap.size w w' → RefIn w' (newX X w w') r s from fun w' hb => h.go hb)
    have k_rd : wc.cell? ⟨x, 8, none⟩ = some (.bool r.rd) := (hB.hx.cell 8).trans rfl
    rw [hp] at k_rd
    clear h hp
    have HB2 := Lib.hid (show Boxed 50 w (wc) x y (r : RF).cells from hB)
    obtain ⟨zs, hz, hy⟩ := HB2.out.hy
    have HY := Lib.hid (And.intro hz hy)
    clear hB hz hy
    go_wp2_with (first
      | ((with_reducible change wpList _ _ _ _ _ (wc)); refine wpList_load_row rfl 50 _ rfl x rfl 50 _ (0, 0) _ HB2.out.hx Tryd.underlying50 rfl rinfo ?_)
      | ((with_reducible change wpList _ _ _ _ _ (wc)); refine wpList_store_row rfl 50 _ _ rfl y _ rfl rfl 50 zs HY.out.2 rinfo HY.out.1 (RF.ones _) ?_))
    (try simp only [Exit.inBlock, Exit.then]); refine bodyPost_ret (res_c4 rfl _ rfl HB2.out.row Tryd.underlying50 rfl rinfo) rfl ?_
    exact ⟨_, none, 0, rfl, HB2.out.end_, HR.out _ HB2.out.end_, IntsX.nil _ _⟩
set_option maxRecDepth 100000 in
set_option maxHeartbeats 3200000 in
theorem tstep3 {w : World} {X : Nat → Prop} {r : RF} {s : TS} (h : RefIn w X r s) (hf : s.fine) (h3 : s.ia ≠ 0) (hn : ¬ s.inn < s.W) :
    Calls Tryd.prog 26 #[r.v, .bool true] w fun e w' => ∃ r' A c, e = .returned (.tuple #[RF.v r', .slice A (s.step true).2.1.length c, .bool (s.step true).2.2.1, .int .i64 (s.step true).2.2.2]) ∧ Below w.heap.size w w' ∧ RefIn w' (newX X w w') r' (s.step true).1 ∧ IntsX w' (newX X w w') (.slice A (s.step true).2.1.length c) (s.step true).2.1 := by
  rw [show s.step true = ({ s with mem := s.mem.set 0 ((s.io + 4 : Nat) : Int), io := s.mid % 4, ia := 0 }, [], true, 0) by simp [TS.step, TS.stepW, h3, hn]]
  have hp : r.wr = true := by rw [h.wr]; simp [TS.busy, h3]
  have hma := h.ma h3
  have hW := h.W
  have hMi := h.Mi
  have hBa := h.Ba
  have hio := hf.ok.io
  have hmid := (ok_mid hf.ok).2
  have b1 : ¬ (s.inn : Int) < (s.W : Int) := by omega
  have ht : (s.mid : Int).tmod 4 = ((s.mid % 4 : Nat) : Int) := by rw [Int.tmod_eq_emod_of_nonneg (by omega)]; omega
  have w0 : IntKind.i64.wrap ((s.mid % 4 : Nat) : Int) = ((s.mid % 4 : Nat) : Int) := by rw [IntKind.wrap_i64]; omega
  unfold RF.v
  go_enter Tryd.func26, Tryd.ntmps26
  go_upto_region 0 with (fail)
  go_cut [2, 4, 5, 6, 7] (fun p0 p1 p2 p3 p4 wx => ∃ x y, p0 = .pointer (some ⟨x, 0, none⟩) ∧ p1 = .pointer (some ⟨y, 0, none⟩) ∧ p2 = .slice none 0 0 ∧ p3 = .bool false ∧ p4 = .int .i64 0 ∧ Boxed 50 w wx x y r.cells)
  case first =>
    go_wp2_with fail
    go_meet
    exact ⟨_, _, rfl, rfl, rfl, rfl, rfl, boxed_new _ _ _ _ rfl⟩
  case rest =>
    obtain ⟨x, y, rfl, rfl, rfl, rfl, rfl, hB⟩ := hcut
    have HR := Lib.hid (show ∀ w', Below w.heap.size w w' → RefIn w' (newX X w w') r s from fun w' hb => h.go hb)
    have k_wr : wc.cell? ⟨x, 7, none⟩ = some (.bool r.wr) := (hB.hx.cell 7).trans rfl
    rw [hp] at k_wr
    have k_ma : wc.cell? ⟨x, 9, none⟩ = some (.int .i64 r.ma) := (hB.hx.cell 9).trans rfl
    rw [hma] at k_ma
    have k_W : wc.cell? ⟨x, 0, none⟩ = some (.int .i64 r.W) := (hB.hx.cell 0).trans rfl
    rw [hW] at k_W
    have k_Mi : wc.cell? ⟨x, 1, none⟩ = some (.int .i64 r.Mi) := (hB.hx.cell 1).trans rfl
    rw [hMi] at k_Mi
    have k_Ba : wc.cell? ⟨x, 5, none⟩ = some (.int .i64 r.Ba) := (hB.hx.cell 5).trans rfl
    rw [hBa] at k_Ba
    have f_Mi := hB.hx.fr 1
    have f_Ba := hB.hx.fr 5
    have f_wr := hB.hx.fr 7
    have HK := Lib.hid hf
    generalize hq : s.mid % 4 = q at *
    have HQ := Lib.hid hq
    clear h hp hf hma hW hMi hBa hq
    have HB2 := Lib.hid (show Boxed 50 w ((((wc.setCell ⟨x, 1, none⟩ (.int .i64 ((s.io : Int) + 4))).setCell ⟨x, 5, none⟩ (.int .i64 (q : Int))).setCell ⟨x, 7, none⟩ (.bool false))) x y ({ r with Mi := (s.io : Int) + 4, Ba := (q : Int), wr := false } : RF).cells from (((hB.set 1 (.int .i64 ((s.io : Int) + 4))).set 5 (.int .i64 (q : Int))).set 7 (.bool false)))
    obtain ⟨zs, hz, hy⟩ := HB2.out.hy
    have HY := Lib.hid (And.intro hz hy)
    clear hB hz hy
    go_wp2_with (first
      | ((with_reducible change wpList _ _ _ _ _ ((((wc.setCell ⟨x, 1, none⟩ (.int .i64 ((s.io : Int) + 4))).setCell ⟨x, 5, none⟩ (.int .i64 (q : Int))).setCell ⟨x, 7, none⟩ (.bool false)))); refine wpList_load_row rfl 50 _ rfl x rfl 50 _ (0, 0) _ HB2.out.hx Tryd.underlying50 rfl rinfo ?_)
      | ((with_reducible change wpList _ _ _ _ _ ((((wc.setCell ⟨x, 1, none⟩ (.int .i64 ((s.io : Int) + 4))).setCell ⟨x, 5, none⟩ (.int .i64 (q : Int))).setCell ⟨x, 7, none⟩ (.bool false)))); refine wpList_store_row rfl 50 _ _ rfl y _ rfl rfl 50 zs HY.out.2 rinfo HY.out.1 (RF.ones _) ?_))
    (try simp only [Exit.inBlock, Exit.then]); refine bodyPost_ret (res_c4 rfl _ rfl HB2.out.row Tryd.underlying50 rfl rinfo) rfl ?_
    exact ⟨_, none, 0, rfl, HB2.out.end_, refin_over (HR.out _ HB2.out.end_) HK.out.ok ((s.io : Int) + 4) (q : Int) (by simp) (by rw [HQ.out]), IntsX.nil _ _⟩
set_option maxRecDepth 100000 in
set_option maxHeartbeats 3200000 in
theorem tstep5 {w : World} {X : Nat → Prop} {r : RF} {s : TS} (h : RefIn w X r s) (hf : s.fine) (h1 : s.oa = 1) :
    Calls Tryd.prog 26 #[r.v, .bool false] w fun e w' => ∃ r' A c, e = .returned (.tuple #[RF.v r', .slice A (s.step false).2.1.length c, .bool (s.step false).2.2.1, .int .i64 (s.step false).2.2.2]) ∧ Below w.heap.size w w' ∧ RefIn w' (newX X w w') r' (s.step false).1 ∧ IntsX w' (newX X w w') (.slice A (s.step false).2.1.length c) (s.step false).2.1 := by
  rw [show s.step false = ({ s with oa := if 4 ≤ s.mid then 2 else 3 }, [], false, 0) by simp [TS.step, TS.stepR, h1]]
  have hp : r.rd = true := by rw [h.rd]; simp [TS.busy, h1]
  have hak : r.ak = false := by rw [h.ak (by omega)]; simp [h1]
  have hMi := h.Mi
  have hmid := (ok_mid hf.ok).2
  by_cases hm : 4 ≤ s.mid
  · have b4 : (4 : Int) ≤ (s.mid : Int) := by omega
    have hmm : ∀ (w' : World) (Y : Nat → Prop) (r0 : RF), RefIn w' Y r0 s → RefIn w' Y { r0 with ak := true, fs := true } { s with oa := 2 } := fun w' Y r0 h' => by
      have := refin_ask h' hf h1 true (by simp; omega)
      rw [if_pos hm] at this
      exact this
    rw [if_pos hm]
    unfold RF.v
    go_enter Tryd.func26, Tryd.ntmps26
    go_upto_region 0 with (fail)
    go_cut [2, 4, 5, 6, 7] (fun p0 p1 p2 p3 p4 wx => ∃ x y, p0 = .pointer (some ⟨x, 0, none⟩) ∧ p1 = .pointer (some ⟨y, 0, none⟩) ∧ p2 = .slice none 0 0 ∧ p3 = .bool false ∧ p4 = .int .i64 0 ∧ Boxed 50 w wx x y r.cells)
    case first =>
      go_wp2_with fail
      go_meet
      exact ⟨_, _, rfl, rfl, rfl, rfl, rfl, boxed_new _ _ _ _ rfl⟩
    case rest =>
      obtain ⟨x, y, rfl, rfl, rfl, rfl, rfl, hB⟩ := hcut
      have HR := Lib.hid (show ∀ w', Below w.heap.size w w' → RefIn w' (newX X w w') r s from fun w' hb => h.go hb)
      have k_rd : wc.cell? ⟨x, 8, none⟩ = some (.bool r.rd) := (hB.hx.cell 8).trans rfl
      rw [hp] at k_rd
      have k_ak : wc.cell? ⟨x, 10, none⟩ = some (.bool r.ak) := (hB.hx.cell 10).trans rfl
      rw [hak] at k_ak
      have k_Mi : wc.cell? ⟨x, 1, none⟩ = some (.int .i64 r.Mi) := (hB.hx.cell 1).trans rfl
      rw [hMi] at k_Mi
      have k_fs : wc.cell? ⟨x, 11, none⟩ = some (.bool r.fs) := (hB.hx.cell 11).trans rfl
      have f_ak := hB.hx.fr 10
      have f_fs := hB.hx.fr 11
      have HK := Lib.hid hf
      have HM := Lib.hid hmm
      clear h hp hf hak hMi hm hmm
      have HB2 := Lib.hid (show Boxed 50 w (((wc.setCell ⟨x, 10, none⟩ (.bool true)).setCell ⟨x, 11, none⟩ (.bool true))) x y ({ r with ak := true, fs := true } : RF).cells from ((hB.set 10 (.bool true)).set 11 (.bool true)))
      obtain ⟨zs, hz, hy⟩ := HB2.out.hy
      have HY := Lib.hid (And.intro hz hy)
      clear hB hz hy
      go_wp2_with (first
        | ((with_reducible change wpList _ _ _ _ _ (((wc.setCell ⟨x, 10, none⟩ (.bool true)).setCell ⟨x, 11, none⟩ (.bool true)))); refine wpList_load_row rfl 50 _ rfl x rfl 50 _ (0, 0) _ HB2.out.hx Tryd.underlying50 rfl rinfo ?_)
        | ((with_reducible change wpList _ _ _ _ _ (((wc.setCell ⟨x, 10, none⟩ (.bool true)).setCell ⟨x, 11, none⟩ (.bool true)))); refine wpList_store_row rfl 50 _ _ rfl y _ rfl rfl 50 zs HY.out.2 rinfo HY.out.1 (RF.ones _) ?_))
      (try simp only [Exit.inBlock, Exit.then]); refine bodyPost_ret (res_c4 rfl _ rfl HB2.out.row Tryd.underlying50 rfl rinfo) rfl ?_
      exact ⟨_, none, 0, rfl, HB2.out.end_, HM.out _ _ _ (HR.out _ HB2.out.end_), IntsX.nil _ _⟩
  · have b4 : ¬ (4 : Int) ≤ (s.mid : Int) := by omega
    have hmm : ∀ (w' : World) (Y : Nat → Prop) (r0 : RF), RefIn w' Y r0 s → RefIn w' Y { r0 with ak := true, fs := false } { s with oa := 3 } := fun w' Y r0 h' => by
      have := refin_ask h' hf h1 false (by simp; omega)
      rw [if_neg hm] at this
      exact this
    rw [if_neg hm]
    unfold RF.v
    go_enter Tryd.func26, Tryd.ntmps26
    go_upto_region 0 with (fail)
    go_cut [2, 4, 5, 6, 7] (fun p0 p1 p2 p3 p4 wx => ∃ x y, p0 = .pointer (some ⟨x, 0, none⟩) ∧ p1 = .pointer (some ⟨y, 0, none⟩) ∧ p2 = .slice none 0 0 ∧ p3 = .bool false ∧ p4 = .int .i64 0 ∧ Boxed 50 w wx x y r.cells)
    case first =>
      go_wp2_with fail
      go_meet
      exact ⟨_, _, rfl, rfl, rfl, rfl, rfl, boxed_new _ _ _ _ rfl⟩
    case rest =>
      obtain ⟨x, y, rfl, rfl, rfl, rfl, rfl, hB⟩ := hcut
      have HR := Lib.hid (show ∀ w', Below w.heap.size w w' → RefIn w' (newX X w w') r s from fun w' hb => h.go hb)
      have k_rd : wc.cell? ⟨x, 8, none⟩ = some (.bool r.rd) := (hB.hx.cell 8).trans rfl
      rw [hp] at k_rd
      have k_ak : wc.cell? ⟨x, 10, none⟩ = some (.bool r.ak) := (hB.hx.cell 10).trans rfl
      rw [hak] at k_ak
      have k_Mi : wc.cell? ⟨x, 1, none⟩ = some (.int .i64 r.Mi) := (hB.hx.cell 1).trans rfl
      rw [hMi] at k_Mi
      have k_fs : wc.cell? ⟨x, 11, none⟩ = some (.bool r.fs) := (hB.hx.cell 11).trans rfl
      have f_ak := hB.hx.fr 10
      have f_fs := hB.hx.fr 11
      have HK := Lib.hid hf
      have HM := Lib.hid hmm
      clear h hp hf hak hMi hm hmm
      have HB2 := Lib.hid (show Boxed 50 w (((wc.setCell ⟨x, 10, none⟩ (.bool true)).setCell ⟨x, 11, none⟩ (.bool false))) x y ({ r with ak := true, fs := false } : RF).cells from ((hB.set 10 (.bool true)).set 11 (.bool false)))
      obtain ⟨zs, hz, hy⟩ := HB2.out.hy
      have HY := Lib.hid (And.intro hz hy)
      clear hB hz hy
      go_wp2_with (first
        | ((with_reducible change wpList _ _ _ _ _ (((wc.setCell ⟨x, 10, none⟩ (.bool true)).setCell ⟨x, 11, none⟩ (.bool false)))); refine wpList_load_row rfl 50 _ rfl x rfl 50 _ (0, 0) _ HB2.out.hx Tryd.underlying50 rfl rinfo ?_)
        | ((with_reducible change wpList _ _ _ _ _ (((wc.setCell ⟨x, 10, none⟩ (.bool true)).setCell ⟨x, 11, none⟩ (.bool false)))); refine wpList_store_row rfl 50 _ _ rfl y _ rfl rfl 50 zs HY.out.2 rinfo HY.out.1 (RF.ones _) ?_))
      (try simp only [Exit.inBlock, Exit.then]); refine bodyPost_ret (res_c4 rfl _ rfl HB2.out.row Tryd.underlying50 rfl rinfo) rfl ?_
      exact ⟨_, none, 0, rfl, HB2.out.end_, HM.out _ _ _ (HR.out _ HB2.out.end_), IntsX.nil _ _⟩
set_option maxRecDepth 100000 in
set_option maxHeartbeats 3200000 in
theorem tstep6 {w : World} {X : Nat → Prop} {r : RF} {s : TS} (h : RefIn w X r s) (hf : s.fine) (h2 : s.oa = 2) :
    Calls Tryd.prog 26 #[r.v, .bool false] w fun e w' => ∃ r' A c, e = .returned (.tuple #[RF.v r', .slice A (s.step false).2.1.length c, .bool (s.step false).2.2.1, .int .i64 (s.step false).2.2.2]) ∧ Below w.heap.size w w' ∧ RefIn w' (newX X w w') r' (s.step false).1 ∧ IntsX w' (newX X w w') (.slice A (s.step false).2.1.length c) (s.step false).2.1 := by
  rw [show s.step false = ({ s with mem := s.mem.set 0 (s.oo : Int), oo := s.mid % 4, oa := 3 }, [], false, 0) by simp [TS.step, TS.stepR, h2]]
  have hp : r.rd = true := by rw [h.rd]; simp [TS.busy, h2]
  have hak : r.ak = true := by rw [h.ak (by omega)]; simp [h2]
  have hfs : r.fs = true := by rw [h.fs (by omega)]; simp [h2]
  have hMi := h.Mi
  have hFr := h.Fr
  have hmid := (ok_mid hf.ok).2
  have ht : (s.mid : Int).tmod 4 = ((s.mid % 4 : Nat) : Int) := by rw [Int.tmod_eq_emod_of_nonneg (by omega)]; omega
  have w0 : IntKind.i64.wrap ((s.mid % 4 : Nat) : Int) = ((s.mid % 4 : Nat) : Int) := by rw [IntKind.wrap_i64]; omega
  unfold RF.v
  go_enter Tryd.func26, Tryd.ntmps26
  go_upto_region 0 with (fail)
  go_cut [2, 4, 5, 6, 7] (fun p0 p1 p2 p3 p4 wx => ∃ x y, p0 = .pointer (some ⟨x, 0, none⟩) ∧ p1 = .pointer (some ⟨y, 0, none⟩) ∧ p2 = .slice none 0 0 ∧ p3 = .bool false ∧ p4 = .int .i64 0 ∧ Boxed 50 w wx x y r.cells)
  case first =>
    go_wp2_with fail
    go_meet
    exact ⟨_, _, rfl, rfl, rfl, rfl, rfl, boxed_new _ _ _ _ rfl⟩
  case rest =>
    obtain ⟨x, y, rfl, rfl, rfl, rfl, rfl, hB⟩ := hcut
    have HR := Lib.hid (show ∀ w', Below w.heap.size w w' → RefIn w' (newX X w w') r s from fun w' hb => h.go hb)
    have k_rd : wc.cell? ⟨x, 8, none⟩ = some (.bool r.rd) := (hB.hx.cell 8).trans rfl
    rw [hp] at k_rd
    have k_ak : wc.cell? ⟨x, 10, none⟩ = some (.bool r.ak) := (hB.hx.cell 10).trans rfl
    rw [hak] at k_ak
    have k_fs : wc.cell? ⟨x, 11, none⟩ = some (.bool r.fs) := (hB.hx.cell 11).trans rfl
    rw [hfs] at k_fs
    have k_Mi : wc.cell? ⟨x, 1, none⟩ = some (.int .i64 r.Mi) := (hB.hx.cell 1).trans rfl
    rw [hMi] at k_Mi
    have k_Fr : wc.cell? ⟨x, 6, none⟩ = some (.int .i64 r.Fr) := (hB.hx.cell 6).trans rfl
    rw [hFr] at k_Fr
    have f_Mi := hB.hx.fr 1
    have f_Fr := hB.hx.fr 6
    have f_fs := hB.hx.fr 11
    have HK := Lib.hid hf
    generalize hq : s.mid % 4 = q at *
    have HQ := Lib.hid hq
    clear h hp hf hak hfs hMi hFr hq
    have HB2 := Lib.hid (show Boxed 50 w ((((wc.setCell ⟨x, 1, none⟩ (.int .i64 (s.oo : Int))).setCell ⟨x, 6, none⟩ (.int .i64 (q : Int))).setCell ⟨x, 11, none⟩ (.bool false))) x y ({ r with Mi := (s.oo : Int), Fr := (q : Int), fs := false } : RF).cells from (((hB.set 1 (.int .i64 (s.oo : Int))).set 6 (.int .i64 (q : Int))).set 11 (.bool false)))
    obtain ⟨zs, hz, hy⟩ := HB2.out.hy
    have HY := Lib.hid (And.intro hz hy)
    clear hB hz hy
    go_wp2_with (first
      | ((with_reducible change wpList _ _ _ _ _ ((((wc.setCell ⟨x, 1, none⟩ (.int .i64 (s.oo : Int))).setCell ⟨x, 6, none⟩ (.int .i64 (q : Int))).setCell ⟨x, 11, none⟩ (.bool false)))); refine wpList_load_row rfl 50 _ rfl x rfl 50 _ (0, 0) _ HB2.out.hx Tryd.underlying50 rfl rinfo ?_)
      | ((with_reducible change wpList _ _ _ _ _ ((((wc.setCell ⟨x, 1, none⟩ (.int .i64 (s.oo : Int))).setCell ⟨x, 6, none⟩ (.int .i64 (q : Int))).setCell ⟨x, 11, none⟩ (.bool false)))); refine wpList_store_row rfl 50 _ _ rfl y _ rfl rfl 50 zs HY.out.2 rinfo HY.out.1 (RF.ones _) ?_))
    (try simp only [Exit.inBlock, Exit.then]); refine bodyPost_ret (res_c4 rfl _ rfl HB2.out.row Tryd.underlying50 rfl rinfo) rfl ?_
    exact ⟨_, none, 0, rfl, HB2.out.end_, refin_take (HR.out _ HB2.out.end_) HK.out h2 (s.oo : Int) (q : Int) rfl (by rw [HQ.out]), IntsX.nil _ _⟩
end Go.Proofs.YtdhbiogcaekbbaaDoor
