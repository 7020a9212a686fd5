/- The reference's ring: a push's accesses. -/
import Derived.Test.YtelfclcljdjohaaDoorRefB
import Derived.Test.YtelfclcljdjohaaDoorRefC
import Derived.Deep.RegionHeld3
import Derived.Deep.MidRow
namespace Go.Proofs.YtelfclcljdjohaaDoor
open Go.RowKit

set_option maxRecDepth 100000 in
set_option maxHeartbeats 3200000 in
theorem rpush1 {w : World} {X : Nat → Prop} {r : RF} {s : RS} (h : RefIn w X r s) (_ : s.ok) (h1 : s.ia = 1) :
    Calls Tryd.prog 45 #[r.v] w fun e w' => ∃ r', e = .returned (.tuple #[RF.v r', .bool s.stepW.2.1, .int .i64 s.stepW.2.2]) ∧ Below w.heap.size w w' ∧ RefIn w' (newX X w w') r' s.stepW.1 := by
  rw [sw1 h1]
  have hma := h.a1 h1
  unfold RF.v
  go_enter Tryd.func45, Tryd.ntmps45
  go_upto_region 0 with (fail)
  go_cut [1, 2, 3, 4] (fun p0 p1 p2 p3 wx => ∃ x y, p0 = .pointer (some ⟨x, 0, none⟩) ∧ p1 = .pointer (some ⟨y, 0, none⟩) ∧ p2 = .bool false ∧ p3 = .int .i64 0 ∧ Boxed 51 w wx x y r.cells)
  case first =>
    go_wp2_with fail
    go_meet
    exact ⟨_, _, rfl, rfl, rfl, rfl, boxed_new _ _ _ _ rfl⟩
  case rest =>
    obtain ⟨x, y, rfl, rfl, rfl, rfl, hB⟩ := hcut
    have HR := Lib.hid (show ∀ w', Below w.heap.size w w' → RefIn w' (newX X w w') r s from fun w' hb => h.go hb)
    have k_ma : wc.cell? ⟨x, 14, none⟩ = some (.int .i64 r.ma) := (hB.hx.cell 14).trans rfl
    have k_H : wc.cell? ⟨x, 2, none⟩ = some (.int .i64 r.H) := (hB.hx.cell 2).trans rfl
    have k_sh : wc.cell? ⟨x, 16, none⟩ = some (.int .i64 r.sh) := (hB.hx.cell 16).trans rfl
    have f_ma := hB.hx.fr 14
    have f_sh := hB.hx.fr 16
    rw [hma] at k_ma
    clear h hma
    have HB2 := Lib.hid (show Boxed 51 w ((wc.setCell ⟨x, 14, none⟩ (.int .i64 1)).setCell ⟨x, 16, none⟩ (.int .i64 r.H)) x y ({ r with ma := 1, sh := r.H } : RF).cells from (hB.set 14 (.int .i64 1)).set 16 (.int .i64 r.H))
    obtain ⟨zs, hz, hy⟩ := HB2.out.hy
    have HY := Lib.hid (And.intro hz hy)
    clear hB hz hy
    go_wp2_with (first
      | (refine wpList_load_row rfl 51 _ rfl x rfl 51 _ (0, 0) _ HB2.out.hx Tryd.underlying51 rfl rinfo ?_)
      | (refine wpList_store_row rfl 51 _ _ rfl y _ rfl rfl 51 zs HY.out.2 rinfo HY.out.1 (RF.ones _) ?_))
    (try simp only [Exit.inBlock, Exit.then]); refine bodyPost_ret (res_c3 rfl _ rfl HB2.out.row Tryd.underlying51 rfl rinfo) rfl ?_
    exact ⟨_, rfl, HB2.out.end_, refin_w1 (HR.out _ HB2.out.end_) h1⟩
set_option maxRecDepth 100000 in
set_option maxHeartbeats 3200000 in
theorem rpush3b {w : World} {X : Nat → Prop} {r : RF} {s : RS} (h : RefIn w X r s) (hk : s.ok) (h3 : s.ia = 3) (hn : s.inn = s.W) :
    Calls Tryd.prog 45 #[r.v] w fun e w' => ∃ r', e = .returned (.tuple #[RF.v r', .bool s.stepW.2.1, .int .i64 s.stepW.2.2]) ∧ Below w.heap.size w w' ∧ RefIn w' (newX X w w') r' s.stepW.1 := by
  rw [sw3 h3, if_neg (by omega)]
  obtain ⟨hma, hst⟩ := h.a3 h3
  have hD := h.D
  have hW := h.W
  rw [hn] at hma
  have hP1 := hk.p1
  have hP8 := hk.p8
  have hW1 := hk.w1
  have hW6 := hk.w6
  have hit := hk.it
  have ht : ((s.it : Int) + 1).tmod (2 * (s.P : Int)) = ((nextOf s.P s.it : Nat) : Int) := by rw [Int.tmod_eq_emod_of_nonneg (by omega), next_eq]
  have hx := nextOf_lt (a := s.it) hP1
  have w0 : IntKind.i64.wrap ((s.it : Int) + 1) = (s.it : Int) + 1 := by rw [IntKind.wrap_i64]; omega
  have w1 : IntKind.i64.wrap (2 * (s.P : Int)) = 2 * (s.P : Int) := by rw [IntKind.wrap_i64]; omega
  have w2 : IntKind.i64.wrap ((nextOf s.P s.it : Nat) : Int) = ((nextOf s.P s.it : Nat) : Int) := by rw [IntKind.wrap_i64]; omega
  have hne : ¬ 2 * (s.P : Int) = 0 := by omega
  have hne1 : ¬ (s.P : Int) = 0 := by omega
  have hne2 : ¬ s.P = 0 := by omega
  have b0 : ((2 + (s.W : Int)) == 0) = false := by simp; omega
  have b1 : ((2 + (s.W : Int)) == 1) = false := by simp; omega
  have b2 : ¬ 2 + (s.W : Int) < 2 + (s.W : Int) := by omega
  unfold RF.v
  go_enter Tryd.func45, Tryd.ntmps45
  go_upto_region 0 with (fail)
  go_cut [1, 2, 3, 4] (fun p0 p1 p2 p3 wx => ∃ x y, p0 = .pointer (some ⟨x, 0, none⟩) ∧ p1 = .pointer (some ⟨y, 0, none⟩) ∧ p2 = .bool false ∧ p3 = .int .i64 0 ∧ Boxed 51 w wx x y r.cells)
  case first =>
    go_wp2_with fail
    go_meet
    exact ⟨_, _, rfl, rfl, rfl, rfl, boxed_new _ _ _ _ rfl⟩
  case rest =>
    obtain ⟨x, y, rfl, rfl, rfl, rfl, hB⟩ := hcut
    have HR := Lib.hid (show ∀ w', Below w.heap.size w w' → RefIn w' (newX X w w') r s from fun w' hb => h.go hb)
    have HK := Lib.hid hk
    have k_D : wc.cell? ⟨x, 0, none⟩ = some (.int .i64 r.D) := (hB.hx.cell 0).trans rfl
    have k_W : wc.cell? ⟨x, 1, none⟩ = some (.int .i64 r.W) := (hB.hx.cell 1).trans rfl
    have k_T : wc.cell? ⟨x, 3, none⟩ = some (.int .i64 r.T) := (hB.hx.cell 3).trans rfl
    have k_pu : wc.cell? ⟨x, 12, none⟩ = some (.bool r.pu) := (hB.hx.cell 12).trans rfl
    have k_ma : wc.cell? ⟨x, 14, none⟩ = some (.int .i64 r.ma) := (hB.hx.cell 14).trans rfl
    have k_st : wc.cell? ⟨x, 17, none⟩ = some (.int .i64 r.st) := (hB.hx.cell 17).trans rfl
    have f_ma := hB.hx.fr 14
    have f_T := hB.hx.fr 3
    have f_pu := hB.hx.fr 12
    rw [hma] at k_ma
    rw [hD] at k_D
    rw [hW] at k_W
    rw [hst] at k_st
    clear h hma hst hD hW hx hit hk hn
    have HB2 := Lib.hid (show Boxed 51 w (((wc.setCell ⟨x, 14, none⟩ (.int .i64 (2 + (s.W : Int) + 1))).setCell ⟨x, 3, none⟩ (.int .i64 ((nextOf s.P s.it : Nat) : Int))).setCell ⟨x, 12, none⟩ (.bool false)) x y ({ r with ma := 2 + (s.W : Int) + 1, T := ((nextOf s.P s.it : Nat) : Int), pu := false } : RF).cells from ((hB.set 14 (.int .i64 (2 + (s.W : Int) + 1))).set 3 (.int .i64 ((nextOf s.P s.it : Nat) : Int))).set 12 (.bool false))
    obtain ⟨zs, hz, hy⟩ := HB2.out.hy
    have HY := Lib.hid (And.intro hz hy)
    clear hB hz hy
    go_wp2_with (first
      | (refine wpList_load_row rfl 51 _ rfl x rfl 51 _ (0, 0) _ HB2.out.hx Tryd.underlying51 rfl rinfo ?_)
      | (refine wpList_store_row rfl 51 _ _ rfl y _ rfl rfl 51 zs HY.out.2 rinfo HY.out.1 (RF.ones _) ?_))
    (try simp only [Exit.inBlock, Exit.then]); refine bodyPost_ret (res_c3 rfl _ rfl HB2.out.row Tryd.underlying51 rfl rinfo) rfl ?_
    exact ⟨_, rfl, HB2.out.end_, refin_w3b (HR.out _ HB2.out.end_) HK.out _⟩
end Go.Proofs.YtelfclcljdjohaaDoor
