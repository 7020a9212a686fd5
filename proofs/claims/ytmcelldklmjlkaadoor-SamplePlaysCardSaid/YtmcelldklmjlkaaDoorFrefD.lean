/- The reference's register: the accesses of one cell. -/
import Derived.Test.YtmcelldklmjlkaaDoorFrefA
import Derived.Deep.CutBlock
import Derived.StillTailTactics
namespace Go.Proofs.YtmcelldklmjlkaaDoor
open Go.RowKit

set_option maxRecDepth 100000 in
set_option maxHeartbeats 3200000 in
theorem refw1 {w : World} {X : Nat → Prop} {r : RF} {s : FS} (h : RefIn w X r s) (hk : s.ok) (he : s.iw = s.W + 4) :
    Calls Tryd.prog 66 #[r.v] w fun e w' => ∃ r', e = .returned (.tuple #[RF.v r', .bool (decide (s.iw = 1))]) ∧ Below w.heap.size w w' ∧ RefIn w' (newX X w w') r' { s.accW with iw := s.iw - 1 } := by
  have hW6 := hk.w6
  have hW1 := hk.w1
  have hip := hk.ip
  have hop := hk.op
  have hiq := hk.iq
  have hb0 := (hk.bit 0 (by omega)).2
  have hb1 := (hk.bit 1 (by omega)).2
  have hbi := (hk.bit (2 + s.ip) (by omega)).2
  have hbo := (hk.bit (2 + s.op) (by omega)).2
  rw [show decide (s.iw = 1) = false by simp; try omega]
  rw [show s.accW = { s with ip := 1 - s.g 1 } by unfold FS.accW; rw [if_pos he]]
  have hm0 := h.ma (by omega)
  obtain ⟨m, hm⟩ : ∃ m : Nat, m = s.W + 4 - s.iw := ⟨_, rfl⟩
  have hma : r.ma = (m : Int) := by rw [hm0]; omega
  have mb : m ≤ 12 := by omega
  have t0 : ((m : Int) == 0) = true := by simp; omega
  have HM := Lib.hid hm
  have hbr := h.wr
  have HE := Lib.hid he
  have HK := Lib.hid hk
  have e_Re := h.Re
  unfold RF.v
  go_enter Tryd.func66, Tryd.ntmps66
  go_upto_region 0 with (fail)
  go_cut [1, 2, 3] (fun p0 p1 p2 wx => ∃ x y, p0 = .pointer (some ⟨x, 0, none⟩) ∧ p1 = .pointer (some ⟨y, 0, none⟩) ∧ p2 = .bool false ∧ Boxed 46 w wx x y r.cells)
  case first =>
    go_wp2_with fail
    go_meet
    exact ⟨_, _, rfl, rfl, rfl, boxed_new _ _ _ _ rfl⟩
  case rest =>
    obtain ⟨x, y, rfl, rfl, rfl, hB⟩ := hcut
    have HR := Lib.hid (show ∀ w', Below w.heap.size w w' → RefIn w' (newX X w w') r s from fun w' hb => h.go hb)
    have k_ma : wc.cell? ⟨x, 11, none⟩ = some (.int .i64 r.ma) := (hB.hx.cell 11).trans rfl
    rw [hma] at k_ma
    have f_ma := hB.hx.fr 11
    have k_Re : wc.cell? ⟨x, 2, none⟩ = some (.int .i64 r.Re) := (hB.hx.cell 2).trans rfl
    rw [e_Re] at k_Re
    have k_pa : wc.cell? ⟨x, 13, none⟩ = some (.int .i64 r.pa) := (hB.hx.cell 13).trans rfl
    have f_pa := hB.hx.fr 13
    clear h hk he hm hm0 hma hbr e_Re
    have HB2 := Lib.hid (show Boxed 46 w (((wc.setCell ⟨x, 11, none⟩ (.int .i64 ((m : Int) + 1))).setCell ⟨x, 13, none⟩ (.int .i64 (1 - (s.g 1 : Int))))) x y ({ r with ma := (m : Int) + 1, pa := 1 - (s.g 1 : Int) } : RF).cells from ((hB.set (11) (.int .i64 ((m : Int) + 1))).set (13) (.int .i64 (1 - (s.g 1 : Int)))))
    obtain ⟨zs, hz, hy⟩ := HB2.out.hy
    have HY := Lib.hid (And.intro hz hy)
    clear hB hz hy
    go_wp2_with (first
      | ((with_reducible change wpList _ _ _ _ _ (((wc.setCell ⟨x, 11, none⟩ (.int .i64 ((m : Int) + 1))).setCell ⟨x, 13, none⟩ (.int .i64 (1 - (s.g 1 : Int)))))); refine wpList_load_row rfl 46 _ rfl x rfl 46 _ (0, 0) _ HB2.out.hx Tryd.underlying46 rfl rinfo ?_)
      | ((with_reducible change wpList _ _ _ _ _ (((wc.setCell ⟨x, 11, none⟩ (.int .i64 ((m : Int) + 1))).setCell ⟨x, 13, none⟩ (.int .i64 (1 - (s.g 1 : Int)))))); refine wpList_store_row rfl 46 _ _ rfl y _ rfl rfl 46 zs HY.out.2 rinfo HY.out.1 (RF.ones _) ?_))
    (try simp only [Exit.inBlock, Exit.then]); refine bodyPost_ret (res_c2 rfl _ rfl HB2.out.row Tryd.underlying46 rfl rinfo) rfl ?_
    exact ⟨_, rfl, HB2.out.end_, refin_w1 (HR.out _ HB2.out.end_) HK.out HE.out _ _ (by have := HM.out; have := HE.out; omega) rfl⟩
set_option maxRecDepth 100000 in
set_option maxHeartbeats 3200000 in
theorem refw2 {w : World} {X : Nat → Prop} {r : RF} {s : FS} (h : RefIn w X r s) (hk : s.ok) (he : s.iw = s.W + 3) :
    Calls Tryd.prog 66 #[r.v] w fun e w' => ∃ r', e = .returned (.tuple #[RF.v r', .bool (decide (s.iw = 1))]) ∧ Below w.heap.size w w' ∧ RefIn w' (newX X w w') r' { s.accW with iw := s.iw - 1 } := by
  have hW6 := hk.w6
  have hW1 := hk.w1
  have hip := hk.ip
  have hop := hk.op
  have hiq := hk.iq
  have hb0 := (hk.bit 0 (by omega)).2
  have hb1 := (hk.bit 1 (by omega)).2
  have hbi := (hk.bit (2 + s.ip) (by omega)).2
  have hbo := (hk.bit (2 + s.op) (by omega)).2
  rw [show decide (s.iw = 1) = false by simp; try omega]
  rw [show s.accW = { s with iq := 1 - s.g (2 + s.ip) } by unfold FS.accW; rw [if_neg (by omega), if_pos he]]
  have hm0 := h.ma (by omega)
  obtain ⟨m, hm⟩ : ∃ m : Nat, m = s.W + 4 - s.iw := ⟨_, rfl⟩
  have hma : r.ma = (m : Int) := by rw [hm0]; omega
  have mb : m ≤ 12 := by omega
  have t0 : ((m : Int) == 0) = false := by simp; omega
  have t1 : ((m : Int) == 1) = true := by simp; omega
  have HM := Lib.hid hm
  have hbr := h.wr
  have HE := Lib.hid he
  have HK := Lib.hid hk
  have e_pa := h.pa
  have e_sl := h.sl s.ip (by omega)
  unfold RF.v
  go_enter Tryd.func66, Tryd.ntmps66
  go_upto_region 0 with (fail)
  go_cut [1, 2, 3] (fun p0 p1 p2 wx => ∃ x y, p0 = .pointer (some ⟨x, 0, none⟩) ∧ p1 = .pointer (some ⟨y, 0, none⟩) ∧ p2 = .bool false ∧ Boxed 46 w wx x y r.cells)
  case first =>
    go_wp2_with fail
    go_meet
    exact ⟨_, _, rfl, rfl, rfl, boxed_new _ _ _ _ rfl⟩
  case rest =>
    obtain ⟨x, y, rfl, rfl, rfl, hB⟩ := hcut
    have HR := Lib.hid (show ∀ w', Below w.heap.size w w' → RefIn w' (newX X w w') r s from fun w' hb => h.go hb)
    have k_ma : wc.cell? ⟨x, 11, none⟩ = some (.int .i64 r.ma) := (hB.hx.cell 11).trans rfl
    rw [hma] at k_ma
    have f_ma := hB.hx.fr 11
    have k_pa : wc.cell? ⟨x, 13, none⟩ = some (.int .i64 r.pa) := (hB.hx.cell 13).trans rfl
    rw [e_pa] at k_pa
    have hB1 := hB.set 11 (.int .i64 ((m : Int) + 1))
    have hBs : Boxed 46 w (wc.setCell ⟨x, 11, none⟩ (.int .i64 ((m : Int) + 1))) x y ({ r with ma := (m : Int) + 1 } : RF).cells := hB1
    have k_sl : (wc.setCell ⟨x, 11, none⟩ (.int .i64 ((m : Int) + 1))).cell? ⟨x, 3 + s.ip, none⟩ = some (.int .i64 (s.g (2 + s.ip) : Int)) := (hBs.hx.cell _).trans (by rw [RF.cs _ _ (by omega), ← e_sl]; rcases (show s.ip = 0 ∨ s.ip = 1 by omega) with q | q <;> rw [q] <;> rfl)
    have f_sl := hBs.hx.fr (3 + s.ip)
    have c1 : (0 : Int) ≤ (s.ip : Int) := by omega
    have c2 : (s.ip : Int) < 2 := by omega
    have k_pl : wc.cell? ⟨x, 15, none⟩ = some (.int .i64 r.pl) := (hB.hx.cell 15).trans rfl
    have f_pl := hB.hx.fr 15
    clear h hk he hm hm0 hma hbr e_pa e_sl hB1 hBs
    have HB2 := Lib.hid (show Boxed 46 w (((wc.setCell ⟨x, 11, none⟩ (.int .i64 ((m : Int) + 1))).setCell ⟨x, 15, none⟩ (.int .i64 (1 - (s.g (2 + s.ip) : Int))))) x y ({ r with ma := (m : Int) + 1, pl := 1 - (s.g (2 + s.ip) : Int) } : RF).cells from ((hB.set (11) (.int .i64 ((m : Int) + 1))).set (15) (.int .i64 (1 - (s.g (2 + s.ip) : Int)))))
    obtain ⟨zs, hz, hy⟩ := HB2.out.hy
    have HY := Lib.hid (And.intro hz hy)
    clear hB hz hy
    go_wp2_with (first
      | ((with_reducible change wpList _ _ _ _ _ (((wc.setCell ⟨x, 11, none⟩ (.int .i64 ((m : Int) + 1))).setCell ⟨x, 15, none⟩ (.int .i64 (1 - (s.g (2 + s.ip) : Int)))))); refine wpList_load_row rfl 46 _ rfl x rfl 46 _ (0, 0) _ HB2.out.hx Tryd.underlying46 rfl rinfo ?_)
      | ((with_reducible change wpList _ _ _ _ _ (((wc.setCell ⟨x, 11, none⟩ (.int .i64 ((m : Int) + 1))).setCell ⟨x, 15, none⟩ (.int .i64 (1 - (s.g (2 + s.ip) : Int)))))); refine wpList_store_row rfl 46 _ _ rfl y _ rfl rfl 46 zs HY.out.2 rinfo HY.out.1 (RF.ones _) ?_))
    (try simp only [Exit.inBlock, Exit.then]); refine bodyPost_ret (res_c2 rfl _ rfl HB2.out.row Tryd.underlying46 rfl rinfo) rfl ?_
    exact ⟨_, rfl, HB2.out.end_, refin_w2 (HR.out _ HB2.out.end_) HK.out HE.out _ _ (by have := HM.out; have := HE.out; omega) rfl⟩
set_option maxRecDepth 100000 in
set_option maxHeartbeats 3200000 in
theorem refw4 {w : World} {X : Nat → Prop} {r : RF} {s : FS} (h : RefIn w X r s) (hk : s.ok) (he : s.iw = 2) :
    Calls Tryd.prog 66 #[r.v] w fun e w' => ∃ r', e = .returned (.tuple #[RF.v r', .bool (decide (s.iw = 1))]) ∧ Below w.heap.size w w' ∧ RefIn w' (newX X w w') r' { s.accW with iw := s.iw - 1 } := by
  have hW6 := hk.w6
  have hW1 := hk.w1
  have hip := hk.ip
  have hop := hk.op
  have hiq := hk.iq
  have hb0 := (hk.bit 0 (by omega)).2
  have hb1 := (hk.bit 1 (by omega)).2
  have hbi := (hk.bit (2 + s.ip) (by omega)).2
  have hbo := (hk.bit (2 + s.op) (by omega)).2
  rw [show decide (s.iw = 1) = false by simp; try omega]
  rw [show s.accW = { s with mem := s.mem.set (2 + s.ip) (s.iq : Int) } by unfold FS.accW; rw [if_neg (by omega), if_neg (by omega), if_neg (by omega), if_pos he]]
  have hm0 := h.ma (by omega)
  obtain ⟨m, hm⟩ : ∃ m : Nat, m = s.W + 4 - s.iw := ⟨_, rfl⟩
  have hma : r.ma = (m : Int) := by rw [hm0]; omega
  have mb : m ≤ 12 := by omega
  have t0 : ((m : Int) == 0) = false := by simp; omega
  have t1 : ((m : Int) == 1) = false := by simp; omega
  have t2 : ¬ (m : Int) < 2 + (s.W : Int) := by omega
  have t3 : ((m : Int) == 2 + (s.W : Int)) = true := by simp; omega
  have HM := Lib.hid hm
  have hbr := h.wr
  have HE := Lib.hid he
  have HK := Lib.hid hk
  have e_W := h.W
  have e_pa := h.pa
  have e_pl := h.pl
  have e_sl := h.sl s.ip (by omega)
  unfold RF.v
  go_enter Tryd.func66, Tryd.ntmps66
  go_upto_region 0 with (fail)
  go_cut [1, 2, 3] (fun p0 p1 p2 wx => ∃ x y, p0 = .pointer (some ⟨x, 0, none⟩) ∧ p1 = .pointer (some ⟨y, 0, none⟩) ∧ p2 = .bool false ∧ Boxed 46 w wx x y r.cells)
  case first =>
    go_wp2_with fail
    go_meet
    exact ⟨_, _, rfl, rfl, rfl, boxed_new _ _ _ _ rfl⟩
  case rest =>
    obtain ⟨x, y, rfl, rfl, rfl, hB⟩ := hcut
    have HR := Lib.hid (show ∀ w', Below w.heap.size w w' → RefIn w' (newX X w w') r s from fun w' hb => h.go hb)
    have k_ma : wc.cell? ⟨x, 11, none⟩ = some (.int .i64 r.ma) := (hB.hx.cell 11).trans rfl
    rw [hma] at k_ma
    have f_ma := hB.hx.fr 11
    have k_W : wc.cell? ⟨x, 0, none⟩ = some (.int .i64 r.W) := (hB.hx.cell 0).trans rfl
    rw [e_W] at k_W
    have k_pa : wc.cell? ⟨x, 13, none⟩ = some (.int .i64 r.pa) := (hB.hx.cell 13).trans rfl
    rw [e_pa] at k_pa
    have k_pl : wc.cell? ⟨x, 15, none⟩ = some (.int .i64 r.pl) := (hB.hx.cell 15).trans rfl
    rw [e_pl] at k_pl
    have hB1 := hB.set 11 (.int .i64 ((m : Int) + 1))
    have hBs : Boxed 46 w (wc.setCell ⟨x, 11, none⟩ (.int .i64 ((m : Int) + 1))) x y ({ r with ma := (m : Int) + 1 } : RF).cells := hB1
    have k_sl : (wc.setCell ⟨x, 11, none⟩ (.int .i64 ((m : Int) + 1))).cell? ⟨x, 3 + s.ip, none⟩ = some (.int .i64 (s.g (2 + s.ip) : Int)) := (hBs.hx.cell _).trans (by rw [RF.cs _ _ (by omega), ← e_sl]; rcases (show s.ip = 0 ∨ s.ip = 1 by omega) with q | q <;> rw [q] <;> rfl)
    have f_sl := hBs.hx.fr (3 + s.ip)
    have c1 : (0 : Int) ≤ (s.ip : Int) := by omega
    have c2 : (s.ip : Int) < 2 := by omega
    clear h hk he hm hm0 hma hbr e_W e_pa e_pl e_sl hB1 hBs
    have HB2 := Lib.hid (show Boxed 46 w (((wc.setCell ⟨x, 11, none⟩ (.int .i64 ((m : Int) + 1))).setCell ⟨x, 3 + s.ip, none⟩ (.int .i64 (s.iq : Int)))) x y (({ r with ma := (m : Int) + 1 } : RF).sets (s.iq : Int) s.ip : RF).cells from by
      have := ((hB.set (11) (.int .i64 ((m : Int) + 1))).set (3 + s.ip) (.int .i64 (s.iq : Int)))
      rw [show (r.cells.setIfInBounds 11 (.int .i64 ((m : Int) + 1))) = ({ r with ma := (m : Int) + 1 } : RF).cells from rfl, RF.csets _ _ _ (by omega)] at this
      exact this)
    obtain ⟨zs, hz, hy⟩ := HB2.out.hy
    have HY := Lib.hid (And.intro hz hy)
    clear hB hz hy
    go_wp2_with (first
      | ((with_reducible change wpList _ _ _ _ _ (((wc.setCell ⟨x, 11, none⟩ (.int .i64 ((m : Int) + 1))).setCell ⟨x, 3 + s.ip, none⟩ (.int .i64 (s.iq : Int))))); refine wpList_load_row rfl 46 _ rfl x rfl 46 _ (0, 0) _ HB2.out.hx Tryd.underlying46 rfl rinfo ?_)
      | ((with_reducible change wpList _ _ _ _ _ (((wc.setCell ⟨x, 11, none⟩ (.int .i64 ((m : Int) + 1))).setCell ⟨x, 3 + s.ip, none⟩ (.int .i64 (s.iq : Int))))); refine wpList_store_row rfl 46 _ _ rfl y _ rfl rfl 46 zs HY.out.2 rinfo HY.out.1 (RF.ones _) ?_))
    (try simp only [Exit.inBlock, Exit.then]); refine bodyPost_ret (res_c2 rfl _ rfl HB2.out.row Tryd.underlying46 rfl rinfo) rfl ?_
    exact ⟨_, rfl, HB2.out.end_, refin_w4 (HR.out _ HB2.out.end_) HK.out HE.out _ _ (by have := HM.out; have := HE.out; omega) rfl⟩
set_option maxRecDepth 100000 in
set_option maxHeartbeats 3200000 in
theorem refw5 {w : World} {X : Nat → Prop} {r : RF} {s : FS} (h : RefIn w X r s) (hk : s.ok) (he : s.iw = 1) :
    Calls Tryd.prog 66 #[r.v] w fun e w' => ∃ r', e = .returned (.tuple #[RF.v r', .bool (decide (s.iw = 1))]) ∧ Below w.heap.size w w' ∧ RefIn w' (newX X w w') r' { s.accW with iw := s.iw - 1 } := by
  have hW6 := hk.w6
  have hW1 := hk.w1
  have hip := hk.ip
  have hop := hk.op
  have hiq := hk.iq
  have hb0 := (hk.bit 0 (by omega)).2
  have hb1 := (hk.bit 1 (by omega)).2
  have hbi := (hk.bit (2 + s.ip) (by omega)).2
  have hbo := (hk.bit (2 + s.op) (by omega)).2
  rw [show decide (s.iw = 1) = true by simp; try omega]
  rw [show s.accW = { s with mem := s.mem.set 0 (s.ip : Int) } by unfold FS.accW; rw [if_neg (by omega), if_neg (by omega), if_neg (by omega), if_neg (by omega)]]
  have hm0 := h.ma (by omega)
  obtain ⟨m, hm⟩ : ∃ m : Nat, m = s.W + 4 - s.iw := ⟨_, rfl⟩
  have hma : r.ma = (m : Int) := by rw [hm0]; omega
  have mb : m ≤ 12 := by omega
  have t0 : ((m : Int) == 0) = false := by simp; omega
  have t1 : ((m : Int) == 1) = false := by simp; omega
  have t2 : ¬ (m : Int) < 2 + (s.W : Int) := by omega
  have t3 : ((m : Int) == 2 + (s.W : Int)) = false := by simp; omega
  have HM := Lib.hid hm
  have hbr := h.wr
  have HE := Lib.hid he
  have HK := Lib.hid hk
  have e_W := h.W
  have e_pa := h.pa
  unfold RF.v
  go_enter Tryd.func66, Tryd.ntmps66
  go_upto_region 0 with (fail)
  go_cut [1, 2, 3] (fun p0 p1 p2 wx => ∃ x y, p0 = .pointer (some ⟨x, 0, none⟩) ∧ p1 = .pointer (some ⟨y, 0, none⟩) ∧ p2 = .bool false ∧ Boxed 46 w wx x y r.cells)
  case first =>
    go_wp2_with fail
    go_meet
    exact ⟨_, _, rfl, rfl, rfl, boxed_new _ _ _ _ rfl⟩
  case rest =>
    obtain ⟨x, y, rfl, rfl, rfl, hB⟩ := hcut
    have HR := Lib.hid (show ∀ w', Below w.heap.size w w' → RefIn w' (newX X w w') r s from fun w' hb => h.go hb)
    have k_ma : wc.cell? ⟨x, 11, none⟩ = some (.int .i64 r.ma) := (hB.hx.cell 11).trans rfl
    rw [hma] at k_ma
    have f_ma := hB.hx.fr 11
    have k_W : wc.cell? ⟨x, 0, none⟩ = some (.int .i64 r.W) := (hB.hx.cell 0).trans rfl
    rw [e_W] at k_W
    have k_pa : wc.cell? ⟨x, 13, none⟩ = some (.int .i64 r.pa) := (hB.hx.cell 13).trans rfl
    rw [e_pa] at k_pa
    have k_La : wc.cell? ⟨x, 1, none⟩ = some (.int .i64 r.La) := (hB.hx.cell 1).trans rfl
    have f_La := hB.hx.fr 1
    have k_wr : wc.cell? ⟨x, 9, none⟩ = some (.bool r.wr) := (hB.hx.cell 9).trans rfl
    have f_wr := hB.hx.fr 9
    clear h hk he hm hm0 hma hbr e_W e_pa
    have HB2 := Lib.hid (show Boxed 46 w ((((wc.setCell ⟨x, 11, none⟩ (.int .i64 ((m : Int) + 1))).setCell ⟨x, 1, none⟩ (.int .i64 (s.ip : Int))).setCell ⟨x, 9, none⟩ (.bool false))) x y ({ r with ma := (m : Int) + 1, La := (s.ip : Int), wr := false } : RF).cells from (((hB.set (11) (.int .i64 ((m : Int) + 1))).set (1) (.int .i64 (s.ip : Int))).set (9) (.bool false)))
    obtain ⟨zs, hz, hy⟩ := HB2.out.hy
    have HY := Lib.hid (And.intro hz hy)
    clear hB hz hy
    go_wp2_with (first
      | ((with_reducible change wpList _ _ _ _ _ ((((wc.setCell ⟨x, 11, none⟩ (.int .i64 ((m : Int) + 1))).setCell ⟨x, 1, none⟩ (.int .i64 (s.ip : Int))).setCell ⟨x, 9, none⟩ (.bool false)))); refine wpList_load_row rfl 46 _ rfl x rfl 46 _ (0, 0) _ HB2.out.hx Tryd.underlying46 rfl rinfo ?_)
      | ((with_reducible change wpList _ _ _ _ _ ((((wc.setCell ⟨x, 11, none⟩ (.int .i64 ((m : Int) + 1))).setCell ⟨x, 1, none⟩ (.int .i64 (s.ip : Int))).setCell ⟨x, 9, none⟩ (.bool false)))); refine wpList_store_row rfl 46 _ _ rfl y _ rfl rfl 46 zs HY.out.2 rinfo HY.out.1 (RF.ones _) ?_))
    (try simp only [Exit.inBlock, Exit.then]); refine bodyPost_ret (res_c2 rfl _ rfl HB2.out.row Tryd.underlying46 rfl rinfo) rfl ?_
    exact ⟨_, rfl, HB2.out.end_, refin_w5 (HR.out _ HB2.out.end_) HK.out HE.out _ _ rfl⟩
set_option maxRecDepth 100000 in
set_option maxHeartbeats 3200000 in
theorem refr1 {w : World} {X : Nat → Prop} {r : RF} {s : FS} (h : RefIn w X r s) (hk : s.ok) (he : s.ow = s.W + 3) :
    Calls Tryd.prog 67 #[r.v] w fun e w' => ∃ r', e = .returned (.tuple #[RF.v r', .bool (decide (s.ow = 1))]) ∧ Below w.heap.size w w' ∧ RefIn w' (newX X w w') r' { s.accR with ow := s.ow - 1 } := by
  have hW6 := hk.w6
  have hW1 := hk.w1
  have hip := hk.ip
  have hop := hk.op
  have hiq := hk.iq
  have hb0 := (hk.bit 0 (by omega)).2
  have hb1 := (hk.bit 1 (by omega)).2
  have hbi := (hk.bit (2 + s.ip) (by omega)).2
  have hbo := (hk.bit (2 + s.op) (by omega)).2
  rw [show decide (s.ow = 1) = false by simp; try omega]
  rw [show s.accR = { s with op := s.g 0 } by unfold FS.accR; rw [if_pos he]]
  have hm0 := h.se (by omega)
  obtain ⟨m, hm⟩ : ∃ m : Nat, m = s.W + 3 - s.ow := ⟨_, rfl⟩
  have hma : r.se = (m : Int) := by rw [hm0]; omega
  have mb : m ≤ 12 := by omega
  have t0 : ((m : Int) == 0) = true := by simp; omega
  have HM := Lib.hid hm
  have hbr := h.rd
  have HE := Lib.hid he
  have HK := Lib.hid hk
  have e_La := h.La
  unfold RF.v
  go_enter Tryd.func67, Tryd.ntmps67
  go_upto_region 0 with (fail)
  go_cut [1, 2, 3] (fun p0 p1 p2 wx => ∃ x y, p0 = .pointer (some ⟨x, 0, none⟩) ∧ p1 = .pointer (some ⟨y, 0, none⟩) ∧ p2 = .bool false ∧ Boxed 46 w wx x y r.cells)
  case first =>
    go_wp2_with fail
    go_meet
    exact ⟨_, _, rfl, rfl, rfl, boxed_new _ _ _ _ rfl⟩
  case rest =>
    obtain ⟨x, y, rfl, rfl, rfl, hB⟩ := hcut
    have HR := Lib.hid (show ∀ w', Below w.heap.size w w' → RefIn w' (newX X w w') r s from fun w' hb => h.go hb)
    have k_se : wc.cell? ⟨x, 12, none⟩ = some (.int .i64 r.se) := (hB.hx.cell 12).trans rfl
    rw [hma] at k_se
    have f_se := hB.hx.fr 12
    have k_La : wc.cell? ⟨x, 1, none⟩ = some (.int .i64 r.La) := (hB.hx.cell 1).trans rfl
    rw [e_La] at k_La
    have k_own : wc.cell? ⟨x, 14, none⟩ = some (.int .i64 r.own) := (hB.hx.cell 14).trans rfl
    have f_own := hB.hx.fr 14
    clear h hk he hm hm0 hma hbr e_La
    have HB2 := Lib.hid (show Boxed 46 w (((wc.setCell ⟨x, 12, none⟩ (.int .i64 ((m : Int) + 1))).setCell ⟨x, 14, none⟩ (.int .i64 (s.g 0 : Int)))) x y ({ r with se := (m : Int) + 1, own := (s.g 0 : Int) } : RF).cells from ((hB.set (12) (.int .i64 ((m : Int) + 1))).set (14) (.int .i64 (s.g 0 : Int))))
    obtain ⟨zs, hz, hy⟩ := HB2.out.hy
    have HY := Lib.hid (And.intro hz hy)
    clear hB hz hy
    go_wp2_with (first
      | ((with_reducible change wpList _ _ _ _ _ (((wc.setCell ⟨x, 12, none⟩ (.int .i64 ((m : Int) + 1))).setCell ⟨x, 14, none⟩ (.int .i64 (s.g 0 : Int))))); refine wpList_load_row rfl 46 _ rfl x rfl 46 _ (0, 0) _ HB2.out.hx Tryd.underlying46 rfl rinfo ?_)
      | ((with_reducible change wpList _ _ _ _ _ (((wc.setCell ⟨x, 12, none⟩ (.int .i64 ((m : Int) + 1))).setCell ⟨x, 14, none⟩ (.int .i64 (s.g 0 : Int))))); refine wpList_store_row rfl 46 _ _ rfl y _ rfl rfl 46 zs HY.out.2 rinfo HY.out.1 (RF.ones _) ?_))
    (try simp only [Exit.inBlock, Exit.then]); refine bodyPost_ret (res_c2 rfl _ rfl HB2.out.row Tryd.underlying46 rfl rinfo) rfl ?_
    exact ⟨_, rfl, HB2.out.end_, refin_r1 (HR.out _ HB2.out.end_) HE.out _ _ (by have := HM.out; have := HE.out; omega) rfl⟩
set_option maxRecDepth 100000 in
set_option maxHeartbeats 3200000 in
theorem refr2 {w : World} {X : Nat → Prop} {r : RF} {s : FS} (h : RefIn w X r s) (hk : s.ok) (he : s.ow = s.W + 2) :
    Calls Tryd.prog 67 #[r.v] w fun e w' => ∃ r', e = .returned (.tuple #[RF.v r', .bool (decide (s.ow = 1))]) ∧ Below w.heap.size w w' ∧ RefIn w' (newX X w w') r' { s.accR with ow := s.ow - 1 } := by
  have hW6 := hk.w6
  have hW1 := hk.w1
  have hip := hk.ip
  have hop := hk.op
  have hiq := hk.iq
  have hb0 := (hk.bit 0 (by omega)).2
  have hb1 := (hk.bit 1 (by omega)).2
  have hbi := (hk.bit (2 + s.ip) (by omega)).2
  have hbo := (hk.bit (2 + s.op) (by omega)).2
  rw [show decide (s.ow = 1) = false by simp; try omega]
  rw [show s.accR = { s with mem := s.mem.set 1 (s.op : Int) } by unfold FS.accR; rw [if_neg (by omega), if_pos he]]
  have hm0 := h.se (by omega)
  obtain ⟨m, hm⟩ : ∃ m : Nat, m = s.W + 3 - s.ow := ⟨_, rfl⟩
  have hma : r.se = (m : Int) := by rw [hm0]; omega
  have mb : m ≤ 12 := by omega
  have t0 : ((m : Int) == 0) = false := by simp; omega
  have t1 : ((m : Int) == 1) = true := by simp; omega
  have HM := Lib.hid hm
  have hbr := h.rd
  have HE := Lib.hid he
  have HK := Lib.hid hk
  have e_own := h.own
  unfold RF.v
  go_enter Tryd.func67, Tryd.ntmps67
  go_upto_region 0 with (fail)
  go_cut [1, 2, 3] (fun p0 p1 p2 wx => ∃ x y, p0 = .pointer (some ⟨x, 0, none⟩) ∧ p1 = .pointer (some ⟨y, 0, none⟩) ∧ p2 = .bool false ∧ Boxed 46 w wx x y r.cells)
  case first =>
    go_wp2_with fail
    go_meet
    exact ⟨_, _, rfl, rfl, rfl, boxed_new _ _ _ _ rfl⟩
  case rest =>
    obtain ⟨x, y, rfl, rfl, rfl, hB⟩ := hcut
    have HR := Lib.hid (show ∀ w', Below w.heap.size w w' → RefIn w' (newX X w w') r s from fun w' hb => h.go hb)
    have k_se : wc.cell? ⟨x, 12, none⟩ = some (.int .i64 r.se) := (hB.hx.cell 12).trans rfl
    rw [hma] at k_se
    have f_se := hB.hx.fr 12
    have k_own : wc.cell? ⟨x, 14, none⟩ = some (.int .i64 r.own) := (hB.hx.cell 14).trans rfl
    rw [e_own] at k_own
    have k_Re : wc.cell? ⟨x, 2, none⟩ = some (.int .i64 r.Re) := (hB.hx.cell 2).trans rfl
    have f_Re := hB.hx.fr 2
    clear h hk he hm hm0 hma hbr e_own
    have HB2 := Lib.hid (show Boxed 46 w (((wc.setCell ⟨x, 12, none⟩ (.int .i64 ((m : Int) + 1))).setCell ⟨x, 2, none⟩ (.int .i64 (s.op : Int)))) x y ({ r with se := (m : Int) + 1, Re := (s.op : Int) } : RF).cells from ((hB.set (12) (.int .i64 ((m : Int) + 1))).set (2) (.int .i64 (s.op : Int))))
    obtain ⟨zs, hz, hy⟩ := HB2.out.hy
    have HY := Lib.hid (And.intro hz hy)
    clear hB hz hy
    go_wp2_with (first
      | ((with_reducible change wpList _ _ _ _ _ (((wc.setCell ⟨x, 12, none⟩ (.int .i64 ((m : Int) + 1))).setCell ⟨x, 2, none⟩ (.int .i64 (s.op : Int))))); refine wpList_load_row rfl 46 _ rfl x rfl 46 _ (0, 0) _ HB2.out.hx Tryd.underlying46 rfl rinfo ?_)
      | ((with_reducible change wpList _ _ _ _ _ (((wc.setCell ⟨x, 12, none⟩ (.int .i64 ((m : Int) + 1))).setCell ⟨x, 2, none⟩ (.int .i64 (s.op : Int))))); refine wpList_store_row rfl 46 _ _ rfl y _ rfl rfl 46 zs HY.out.2 rinfo HY.out.1 (RF.ones _) ?_))
    (try simp only [Exit.inBlock, Exit.then]); refine bodyPost_ret (res_c2 rfl _ rfl HB2.out.row Tryd.underlying46 rfl rinfo) rfl ?_
    exact ⟨_, rfl, HB2.out.end_, refin_r2 (HR.out _ HB2.out.end_) HK.out HE.out _ _ (by have := HM.out; have := HE.out; omega) rfl⟩
set_option maxRecDepth 100000 in
set_option maxHeartbeats 3200000 in
theorem refr3 {w : World} {X : Nat → Prop} {r : RF} {s : FS} (h : RefIn w X r s) (hk : s.ok) (he : s.ow = s.W + 1) :
    Calls Tryd.prog 67 #[r.v] w fun e w' => ∃ r', e = .returned (.tuple #[RF.v r', .bool (decide (s.ow = 1))]) ∧ Below w.heap.size w w' ∧ RefIn w' (newX X w w') r' { s.accR with ow := s.ow - 1 } := by
  have hW6 := hk.w6
  have hW1 := hk.w1
  have hip := hk.ip
  have hop := hk.op
  have hiq := hk.iq
  have hb0 := (hk.bit 0 (by omega)).2
  have hb1 := (hk.bit 1 (by omega)).2
  have hbi := (hk.bit (2 + s.ip) (by omega)).2
  have hbo := (hk.bit (2 + s.op) (by omega)).2
  rw [show decide (s.ow = 1) = false by simp; try omega]
  rw [show s.accR = { s with oq := s.g (2 + s.op) } by unfold FS.accR; rw [if_neg (by omega), if_neg (by omega), if_pos he]]
  have hm0 := h.se (by omega)
  obtain ⟨m, hm⟩ : ∃ m : Nat, m = s.W + 3 - s.ow := ⟨_, rfl⟩
  have hma : r.se = (m : Int) := by rw [hm0]; omega
  have mb : m ≤ 12 := by omega
  have t0 : ((m : Int) == 0) = false := by simp; omega
  have t1 : ((m : Int) == 1) = false := by simp; omega
  have t2 : ((m : Int) == 2) = true := by simp; omega
  have HM := Lib.hid hm
  have hbr := h.rd
  have HE := Lib.hid he
  have HK := Lib.hid hk
  have e_own := h.own
  have e_sl := h.sl s.op (by omega)
  unfold RF.v
  go_enter Tryd.func67, Tryd.ntmps67
  go_upto_region 0 with (fail)
  go_cut [1, 2, 3] (fun p0 p1 p2 wx => ∃ x y, p0 = .pointer (some ⟨x, 0, none⟩) ∧ p1 = .pointer (some ⟨y, 0, none⟩) ∧ p2 = .bool false ∧ Boxed 46 w wx x y r.cells)
  case first =>
    go_wp2_with fail
    go_meet
    exact ⟨_, _, rfl, rfl, rfl, boxed_new _ _ _ _ rfl⟩
  case rest =>
    obtain ⟨x, y, rfl, rfl, rfl, hB⟩ := hcut
    have HR := Lib.hid (show ∀ w', Below w.heap.size w w' → RefIn w' (newX X w w') r s from fun w' hb => h.go hb)
    have k_se : wc.cell? ⟨x, 12, none⟩ = some (.int .i64 r.se) := (hB.hx.cell 12).trans rfl
    rw [hma] at k_se
    have f_se := hB.hx.fr 12
    have k_own : wc.cell? ⟨x, 14, none⟩ = some (.int .i64 r.own) := (hB.hx.cell 14).trans rfl
    rw [e_own] at k_own
    have hB1 := hB.set 12 (.int .i64 ((m : Int) + 1))
    have hBs : Boxed 46 w (wc.setCell ⟨x, 12, none⟩ (.int .i64 ((m : Int) + 1))) x y ({ r with se := (m : Int) + 1 } : RF).cells := hB1
    have k_sl : (wc.setCell ⟨x, 12, none⟩ (.int .i64 ((m : Int) + 1))).cell? ⟨x, 3 + s.op, none⟩ = some (.int .i64 (s.g (2 + s.op) : Int)) := (hBs.hx.cell _).trans (by rw [RF.cs _ _ (by omega), ← e_sl]; rcases (show s.op = 0 ∨ s.op = 1 by omega) with q | q <;> rw [q] <;> rfl)
    have f_sl := hBs.hx.fr (3 + s.op)
    have c1 : (0 : Int) ≤ (s.op : Int) := by omega
    have c2 : (s.op : Int) < 2 := by omega
    have k_az : wc.cell? ⟨x, 16, none⟩ = some (.int .i64 r.az) := (hB.hx.cell 16).trans rfl
    have f_az := hB.hx.fr 16
    clear h hk he hm hm0 hma hbr e_own e_sl hB1 hBs
    have HB2 := Lib.hid (show Boxed 46 w (((wc.setCell ⟨x, 12, none⟩ (.int .i64 ((m : Int) + 1))).setCell ⟨x, 16, none⟩ (.int .i64 (s.g (2 + s.op) : Int)))) x y ({ r with se := (m : Int) + 1, az := (s.g (2 + s.op) : Int) } : RF).cells from ((hB.set (12) (.int .i64 ((m : Int) + 1))).set (16) (.int .i64 (s.g (2 + s.op) : Int))))
    obtain ⟨zs, hz, hy⟩ := HB2.out.hy
    have HY := Lib.hid (And.intro hz hy)
    clear hB hz hy
    go_wp2_with (first
      | ((with_reducible change wpList _ _ _ _ _ (((wc.setCell ⟨x, 12, none⟩ (.int .i64 ((m : Int) + 1))).setCell ⟨x, 16, none⟩ (.int .i64 (s.g (2 + s.op) : Int))))); refine wpList_load_row rfl 46 _ rfl x rfl 46 _ (0, 0) _ HB2.out.hx Tryd.underlying46 rfl rinfo ?_)
      | ((with_reducible change wpList _ _ _ _ _ (((wc.setCell ⟨x, 12, none⟩ (.int .i64 ((m : Int) + 1))).setCell ⟨x, 16, none⟩ (.int .i64 (s.g (2 + s.op) : Int))))); refine wpList_store_row rfl 46 _ _ rfl y _ rfl rfl 46 zs HY.out.2 rinfo HY.out.1 (RF.ones _) ?_))
    (try simp only [Exit.inBlock, Exit.then]); refine bodyPost_ret (res_c2 rfl _ rfl HB2.out.row Tryd.underlying46 rfl rinfo) rfl ?_
    exact ⟨_, rfl, HB2.out.end_, refin_r3 (HR.out _ HB2.out.end_) HK.out HE.out _ _ (by have := HM.out; have := HE.out; omega) rfl⟩
end Go.Proofs.YtmcelldklmjlkaaDoor
