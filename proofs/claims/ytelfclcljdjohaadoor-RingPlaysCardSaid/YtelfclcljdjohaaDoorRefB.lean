/- The reference's ring: Pop, Drop, Held. -/
import Derived.Test.YtelfclcljdjohaaDoorRefA
import Derived.Deep.CutBlock
import Derived.StillTailTactics
namespace Go.Proofs.YtelfclcljdjohaaDoor
open Go.RowKit

def RF.pop (r : RF) : RF × Int := if r.po then (r, 1) else ({ r with po := true, tk := 0, out := ⟨none, 0, 0⟩ }, 0)
set_option maxRecDepth 100000 in
set_option maxHeartbeats 3200000 in
theorem refpop_any (r : RF) (w : World) :
    Calls Tryd.prog 29 #[r.v] w fun e w' => e = .returned (.tuple #[r.pop.1.v, .int .i64 r.pop.2]) ∧ Below w.heap.size w w' := by
  cases hpo : r.po
  · rw [show r.pop = ({ r with po := true, tk := 0, out := ⟨none, 0, 0⟩ }, 0) by simp [RF.pop, hpo]]
    unfold RF.v
    go_enter Tryd.func29, Tryd.ntmps29
    go_upto_region 0 with (fail)
    go_cut [1, 2, 3] (fun p0 p1 p2 wx => ∃ x y, p0 = .pointer (some ⟨x, 0, none⟩) ∧ p1 = .pointer (some ⟨y, 0, none⟩) ∧ p2 = .int .i64 0 ∧ Boxed 51 w wx x y r.cells)
    case first =>
      go_wp2_with fail
      go_meet
      exact ⟨_, _, rfl, rfl, rfl, boxed_new _ _ _ _ rfl⟩
    case rest =>
      obtain ⟨x, y, rfl, rfl, rfl, hB⟩ := hcut
      have k_po : wc.cell? ⟨x, 13, none⟩ = some (.bool r.po) := (hB.hx.cell 13).trans rfl
      have k_tk : wc.cell? ⟨x, 15, none⟩ = some (.int .i64 r.tk) := (hB.hx.cell 15).trans rfl
      have k_out : wc.cell? ⟨x, 21, none⟩ = some (.slice r.out.A r.out.n r.out.c) := (hB.hx.cell 21).trans rfl
      have f_po := hB.hx.fr 13
      have f_tk := hB.hx.fr 15
      have f_out := hB.hx.fr 21
      rw [hpo] at k_po
      have HB2 := Lib.hid (show Boxed 51 w (((wc.setCell ⟨x, 13, none⟩ (.bool true)).setCell ⟨x, 15, none⟩ (.int .i64 0)).setCell ⟨x, 21, none⟩ (.slice none 0 0)) x y ({ r with po := true, tk := 0, out := ⟨none, 0, 0⟩ } : RF).cells from ((hB.set 13 (.bool true)).set 15 (.int .i64 0)).set 21 (.slice none 0 0))
      obtain ⟨zs, hz, hy⟩ := HB2.out.hy
      have HY := Lib.hid (And.intro hz hy)
      clear hB hz hy
      go_wp2_with (first
        | (refine wpList_load_row rfl 51 _ rfl x rfl 51 _ (0, 0) _ HB2.out.hx Tryd.underlying51 rfl rinfo ?_)
        | (refine wpList_store_row rfl 51 _ _ rfl y _ rfl rfl 51 zs HY.out.2 rinfo HY.out.1 (RF.ones _) ?_))
      (try simp only [Exit.inBlock, Exit.then]); refine bodyPost_ret (res_c2 rfl _ rfl HB2.out.row Tryd.underlying51 rfl rinfo) rfl ?_
      exact ⟨rfl, HB2.out.end_⟩
  · rw [show r.pop = (r, 1) by simp [RF.pop, hpo]]
    unfold RF.v
    go_enter Tryd.func29, Tryd.ntmps29
    go_upto_region 0 with (fail)
    go_cut [1, 2, 3] (fun p0 p1 p2 wx => ∃ x y, p0 = .pointer (some ⟨x, 0, none⟩) ∧ p1 = .pointer (some ⟨y, 0, none⟩) ∧ p2 = .int .i64 0 ∧ Boxed 51 w wx x y r.cells)
    case first =>
      go_wp2_with fail
      go_meet
      exact ⟨_, _, rfl, rfl, rfl, boxed_new _ _ _ _ rfl⟩
    case rest =>
      obtain ⟨x, y, rfl, rfl, rfl, hB⟩ := hcut
      have k_po : wc.cell? ⟨x, 13, none⟩ = some (.bool r.po) := (hB.hx.cell 13).trans rfl
      rw [hpo] at k_po
      have HB2 := Lib.hid (show Boxed 51 w (wc) x y (r : RF).cells from hB)
      obtain ⟨zs, hz, hy⟩ := HB2.out.hy
      have HY := Lib.hid (And.intro hz hy)
      clear hB hz hy
      go_wp2_with (first
        | (refine wpList_load_row rfl 51 _ rfl x rfl 51 _ (0, 0) _ HB2.out.hx Tryd.underlying51 rfl rinfo ?_)
        | (refine wpList_store_row rfl 51 _ _ rfl y _ rfl rfl 51 zs HY.out.2 rinfo HY.out.1 (RF.ones _) ?_))
      (try simp only [Exit.inBlock, Exit.then]); refine bodyPost_ret (res_c2 rfl _ rfl HB2.out.row Tryd.underlying51 rfl rinfo) rfl ?_
      exact ⟨rfl, HB2.out.end_⟩
def RF.drop (r : RF) : Bool → RF × Bool
  | true => ({ r with pu := false }, r.pu)
  | false => ({ r with po := false }, r.po)
set_option maxRecDepth 100000 in
set_option maxHeartbeats 3200000 in
theorem refdrop_any (r : RF) (b : Bool) (w : World) :
    Calls Tryd.prog 31 #[r.v, .bool b] w fun e w' => e = .returned (.tuple #[(r.drop b).1.v, .bool (r.drop b).2]) ∧ Below w.heap.size w w' := by
  cases b
  · rw [show r.drop false = ({ r with po := false }, r.po) from rfl]
    unfold RF.v
    go_enter Tryd.func31, Tryd.ntmps31
    go_upto_region 0 with (fail)
    go_cut [2, 4, 5] (fun p0 p1 p2 wx => ∃ x y, p0 = .pointer (some ⟨x, 0, none⟩) ∧ p1 = .pointer (some ⟨y, 0, none⟩) ∧ p2 = .bool false ∧ Boxed 51 w wx x y r.cells)
    case first =>
      go_wp2_with fail
      go_meet
      exact ⟨_, _, rfl, rfl, rfl, boxed_new _ _ _ _ rfl⟩
    case rest =>
      obtain ⟨x, y, rfl, rfl, rfl, hB⟩ := hcut
      have k_po : wc.cell? ⟨x, 13, none⟩ = some (.bool r.po) := (hB.hx.cell 13).trans rfl
      have f_po := hB.hx.fr 13
      have HB2 := Lib.hid (show Boxed 51 w (wc.setCell ⟨x, 13, none⟩ (.bool false)) x y ({ r with po := false } : RF).cells from hB.set 13 (.bool false))
      obtain ⟨zs, hz, hy⟩ := HB2.out.hy
      have HY := Lib.hid (And.intro hz hy)
      clear hB hz hy
      go_wp2_with (first
        | (refine wpList_load_row rfl 51 _ rfl x rfl 51 _ (0, 0) _ HB2.out.hx Tryd.underlying51 rfl rinfo ?_)
        | (refine wpList_store_row rfl 51 _ _ rfl y _ rfl rfl 51 zs HY.out.2 rinfo HY.out.1 (RF.ones _) ?_))
      (try simp only [Exit.inBlock, Exit.then]); refine bodyPost_ret (res_c2 rfl _ rfl HB2.out.row Tryd.underlying51 rfl rinfo) rfl ?_
      exact ⟨rfl, HB2.out.end_⟩
  · rw [show r.drop true = ({ r with pu := false }, r.pu) from rfl]
    unfold RF.v
    go_enter Tryd.func31, Tryd.ntmps31
    go_upto_region 0 with (fail)
    go_cut [2, 4, 5] (fun p0 p1 p2 wx => ∃ x y, p0 = .pointer (some ⟨x, 0, none⟩) ∧ p1 = .pointer (some ⟨y, 0, none⟩) ∧ p2 = .bool false ∧ Boxed 51 w wx x y r.cells)
    case first =>
      go_wp2_with fail
      go_meet
      exact ⟨_, _, rfl, rfl, rfl, boxed_new _ _ _ _ rfl⟩
    case rest =>
      obtain ⟨x, y, rfl, rfl, rfl, hB⟩ := hcut
      have k_pu : wc.cell? ⟨x, 12, none⟩ = some (.bool r.pu) := (hB.hx.cell 12).trans rfl
      have f_pu := hB.hx.fr 12
      have HB2 := Lib.hid (show Boxed 51 w (wc.setCell ⟨x, 12, none⟩ (.bool false)) x y ({ r with pu := false } : RF).cells from hB.set 12 (.bool false))
      obtain ⟨zs, hz, hy⟩ := HB2.out.hy
      have HY := Lib.hid (And.intro hz hy)
      clear hB hz hy
      go_wp2_with (first
        | (refine wpList_load_row rfl 51 _ rfl x rfl 51 _ (0, 0) _ HB2.out.hx Tryd.underlying51 rfl rinfo ?_)
        | (refine wpList_store_row rfl 51 _ _ rfl y _ rfl rfl 51 zs HY.out.2 rinfo HY.out.1 (RF.ones _) ?_))
      (try simp only [Exit.inBlock, Exit.then]); refine bodyPost_ret (res_c2 rfl _ rfl HB2.out.row Tryd.underlying51 rfl rinfo) rfl ?_
      exact ⟨rfl, HB2.out.end_⟩
set_option maxRecDepth 100000 in
set_option maxHeartbeats 3200000 in
theorem refheld_any (r : RF) (P h t : Nat) (w : World) (hD : r.D = P) (hP : 1 ≤ P) (hP8 : P ≤ 8) (hh : h < 2 * P) (ht : t < 2 * P) :
    Calls Tryd.prog 32 #[r.v, .int .i64 h, .int .i64 t] w fun e w' => e = .returned (.int .i64 (dist P t h)) ∧ Below w.heap.size w w' := by
  have e : ((t : Int) - (h : Int) + 2 * (P : Int)).tmod (2 * (P : Int)) = dist P t h := by
    rw [Int.tmod_eq_emod_of_nonneg (by omega), Int.add_emod_right]
    rfl
  have hr0 : 0 ≤ dist P t h := Int.emod_nonneg _ (by omega)
  have hr1 : dist P t h < 2 * (P : Int) := Int.emod_lt_of_pos _ (by omega)
  have w0 : IntKind.i64.wrap ((t : Int) - (h : Int)) = (t : Int) - (h : Int) := by rw [IntKind.wrap_i64]; omega
  have w1 : IntKind.i64.wrap (2 * (P : Int)) = 2 * (P : Int) := by rw [IntKind.wrap_i64]; omega
  have w2 : IntKind.i64.wrap ((t : Int) - (h : Int) + 2 * (P : Int)) = (t : Int) - (h : Int) + 2 * (P : Int) := by rw [IntKind.wrap_i64]; omega
  have w3 : IntKind.i64.wrap (dist P t h) = dist P t h := by rw [IntKind.wrap_i64]; omega
  have hne : ¬ 2 * (P : Int) = 0 := by omega
  have hne1 : ¬ (P : Int) = 0 := by omega
  have hne2 : ¬ P = 0 := by omega
  clear hr0 hr1 hh ht
  unfold RF.v
  go_enter Tryd.func32, Tryd.ntmps32
  go_upto_region 0 with (fail)
  go_cut [3, 6] (fun p0 p1 wx => ∃ x, p0 = .pointer (some ⟨x, 0, none⟩) ∧ p1 = .int .i64 0 ∧ Blk wx x 51 r.cells ∧ Below w.heap.size w wx)
  case first =>
    go_wp2_with fail
    go_meet
    exact ⟨_, rfl, rfl, Blk.new w _ _, below_alloc (Nat.le_refl _) _⟩
  case rest =>
    obtain ⟨x, rfl, rfl, hB, hb⟩ := hcut
    have k_D : wc.cell? ⟨x, 0, none⟩ = some (.int .i64 P) := (hB.cell 0).trans (by rw [← hD]; rfl)
    clear hB hD
    go_wp2
    go_ret
    exact ⟨by simp, hb⟩
end Go.Proofs.YtelfclcljdjohaaDoor
