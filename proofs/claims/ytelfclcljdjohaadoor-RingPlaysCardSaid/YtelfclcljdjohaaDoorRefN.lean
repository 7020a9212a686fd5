/- The reference's ring: New. -/
import Derived.Test.YtelfclcljdjohaaDoorRefK
import Derived.Test.YtelfclcljdjohaaDoorFill
namespace Go.Proofs.YtelfclcljdjohaaDoor
open Go.RowKit

def nil0 : Sl := ⟨none, 0, 0⟩
def rf00 (a b : Int) : RF := ⟨a, b, 0, 0, nil0, nil0, nil0, nil0, nil0, nil0, nil0, nil0, false, false, 0, 0, 0, 0, 0, 0, nil0, nil0⟩
def rf0 (P W : Nat) : RF := rf00 P W
/-- Slices that lie in the blocks from B on. -/
def From (B : Nat) (w : World) : Nat → Prop := fun k => B ≤ k ∧ k < w.heap.size
structure NewAt (w : World) (B Pn Wn : Nat) (r : RF) (k : Nat) : Prop where
  D : r.D = Pn
  W : r.W = Wn
  H : r.H = 0
  T : r.T = 0
  pu : r.pu = false
  po : r.po = false
  d : ∀ j, j < k → IntsX w (From B w) (r.d j).v (List.replicate Wn 0)
theorem newat_step {w w' : World} {B P W k : Nat} {r : RF} {sl : Sl} (h : NewAt w B P W r k) (hk : k < 8) (hf : ∀ v l, IntsX w (From B w) v l → IntsX w' (From B w') v l) (hs : IntsX w' (From B w') sl.v (List.replicate W 0)) : NewAt w' B P W (r.setd sl k) (k + 1) := by
  have hd := fun j hj => RF.dset r sl k j hk hj
  have e : (r.setd sl k).D = r.D ∧ (r.setd sl k).W = r.W ∧ (r.setd sl k).H = r.H ∧ (r.setd sl k).T = r.T ∧ (r.setd sl k).pu = r.pu ∧ (r.setd sl k).po = r.po := by
    match k, hk with
    | 0, _ => exact ⟨rfl, rfl, rfl, rfl, rfl, rfl⟩
    | 1, _ => exact ⟨rfl, rfl, rfl, rfl, rfl, rfl⟩
    | 2, _ => exact ⟨rfl, rfl, rfl, rfl, rfl, rfl⟩
    | 3, _ => exact ⟨rfl, rfl, rfl, rfl, rfl, rfl⟩
    | 4, _ => exact ⟨rfl, rfl, rfl, rfl, rfl, rfl⟩
    | 5, _ => exact ⟨rfl, rfl, rfl, rfl, rfl, rfl⟩
    | 6, _ => exact ⟨rfl, rfl, rfl, rfl, rfl, rfl⟩
    | 7, _ => exact ⟨rfl, rfl, rfl, rfl, rfl, rfl⟩
  refine ⟨e.1.trans h.D, e.2.1.trans h.W, e.2.2.1.trans h.H, e.2.2.2.1.trans h.T, e.2.2.2.2.1.trans h.pu, e.2.2.2.2.2.trans h.po, fun j hj => ?_⟩
  rw [hd j (by omega)]
  by_cases ej : j = k
  · rw [if_pos ej]; exact hs
  · rw [if_neg ej]; exact hf _ _ (h.d j (by omega))
theorem row_zero (P W i : Nat) (hi : i < P) : (RS.new P W).row i = List.replicate W 0 := by
  have := Nat.mul_le_mul_right W (show i + 1 ≤ P from hi)
  rw [Nat.add_mul] at this
  unfold RS.row RS.new
  simp only [List.drop_replicate, List.take_replicate]
  congr 1
  omega
set_option maxRecDepth 100000 in
set_option maxHeartbeats 3200000 in
theorem refnew_any (n m : Int) (w : World) :
    Calls Tryd.prog 27 #[.int .i64 n, .int .i64 m] w fun e w' => ∃ r, e = .returned (RF.v r) ∧ Below w.heap.size w w' ∧ RefIn w' (From w.heap.size w') r (RS.new (placesOf n) (wordsOf m)) := by
  have hp := placesOf_bd n
  have hw := wordsOf_bd m
  have hk := ok_new _ _ hp.1 hp.2 hw.1 hw.2
  have e0 : ((placesOf n : Nat) : Int) = min (max n 1) 8 := by unfold placesOf; omega
  have e1 : ((wordsOf m : Nat) : Int) = min (max m 1) 6 := by unfold wordsOf; omega
  have eh : (RS.new (placesOf n) (wordsOf m)).hd = 0 := by
    have := ok_len2 hk
    simp only [RS.hd, RS.new] at this ⊢
    rw [List.getElem?_replicate, if_pos (by simp at this; omega)]; rfl
  have et : (RS.new (placesOf n) (wordsOf m)).tl = 0 := by
    have := ok_len2 hk
    simp only [RS.tl, RS.new] at this ⊢
    rw [List.getElem?_replicate, if_pos (by simp at this; omega)]; rfl
  have HHT := Lib.hid (And.intro eh et)
  generalize placesOf n = P at *
  generalize wordsOf m = W at *
  have HE := Lib.hid (And.intro e0 e1)
  clear e0 e1 hk eh et
  unfold RF.v
  go_enter Tryd.func27, Tryd.ntmps27
  go_upto_region 1 with (fail)
  go_cut [4, 5] (fun p q wx => p = .pointer (some ⟨w.heap.size, 0, none⟩) ∧ q = .pointer (some ⟨w.heap.size + 1, 0, none⟩) ∧ Blk wx (w.heap.size + 1) 51 (rf0 P W).cells ∧ Blk wx w.heap.size 51 zero22 ∧ Below w.heap.size w wx ∧ wx.heap.size = w.heap.size + 2)
  case first =>
    rcases clamp_first n 8 (by omega) with ⟨h1, e1⟩ | ⟨h1, h2, e1⟩ | ⟨h1, e1⟩ <;> rcases clamp_first m 6 (by omega) with ⟨g1, f1⟩ | ⟨g1, g2, f1⟩ | ⟨g1, f1⟩
    all_goals
      rw [e1, f1] at HE
      clear e1 f1
      go_wp2_with (first
        | (refine wpList_store_row rfl 51 _ _ rfl (w.heap.size + 1) (rf00 1 1).cells rfl rfl 51 zero22 (heap_alloc2_new w _ _) rinfo rfl (RF.ones _) ?_)
        | (refine wpList_store_row rfl 51 _ _ rfl (w.heap.size + 1) (rf00 1 m).cells rfl rfl 51 zero22 (heap_alloc2_new w _ _) rinfo rfl (RF.ones _) ?_)
        | (refine wpList_store_row rfl 51 _ _ rfl (w.heap.size + 1) (rf00 1 6).cells rfl rfl 51 zero22 (heap_alloc2_new w _ _) rinfo rfl (RF.ones _) ?_)
        | (refine wpList_store_row rfl 51 _ _ rfl (w.heap.size + 1) (rf00 n 1).cells rfl rfl 51 zero22 (heap_alloc2_new w _ _) rinfo rfl (RF.ones _) ?_)
        | (refine wpList_store_row rfl 51 _ _ rfl (w.heap.size + 1) (rf00 n m).cells rfl rfl 51 zero22 (heap_alloc2_new w _ _) rinfo rfl (RF.ones _) ?_)
        | (refine wpList_store_row rfl 51 _ _ rfl (w.heap.size + 1) (rf00 n 6).cells rfl rfl 51 zero22 (heap_alloc2_new w _ _) rinfo rfl (RF.ones _) ?_)
        | (refine wpList_store_row rfl 51 _ _ rfl (w.heap.size + 1) (rf00 8 1).cells rfl rfl 51 zero22 (heap_alloc2_new w _ _) rinfo rfl (RF.ones _) ?_)
        | (refine wpList_store_row rfl 51 _ _ rfl (w.heap.size + 1) (rf00 8 m).cells rfl rfl 51 zero22 (heap_alloc2_new w _ _) rinfo rfl (RF.ones _) ?_)
        | (refine wpList_store_row rfl 51 _ _ rfl (w.heap.size + 1) (rf00 8 6).cells rfl rfl 51 zero22 (heap_alloc2_new w _ _) rinfo rfl (RF.ones _) ?_))
      go_meet
      have hb2 := (below_alloc (w := w) (Nat.le_refl _) (.cells zero22 51)).trans (below_alloc (w := w.alloc (.cells zero22 51)) (B := w.heap.size) (by simp) (.cells zero22 51))
      exact ⟨rfl, rfl, by rw [show rf0 P W = rf00 (P : Int) (W : Int) from rfl, HE.out.1, HE.out.2]; exact setRow_heap _ _ zero22 _ 51 (0, 0) (heap_alloc2_new w _ _), (show Blk _ _ 51 zero22 from (setRow_other _ _ _ _ (by omega)).trans (heap_alloc2_old w _ _)), below_setRow hb2 (by omega) _, by simp⟩
  case rest =>
    obtain ⟨rfl, rfl, hz, hy, hb, hsz⟩ := hcut
    have HZ := Lib.hid (And.intro hz (And.intro hy hb))
    have HN := Lib.hid (show NewAt wc (w.heap.size + 2) P W (rf0 P W) 0 from ⟨rfl, rfl, rfl, rfl, rfl, rfl, fun j hj => by omega⟩)
    have hmk := fun W' => run_make_row' (P := Tryd.prog) 32 3 (.int .i64 0) 8 Tryd.underlying32 infoInt rfl .i64 .i64 W (by omega) (by omega) W'
    clear hz hy hb
    go_wp2_with fail
    go_loopw [6] (fun i wx => ∃ (k : Nat) (r : RF), k ≤ P ∧ i = .int .i64 k ∧ Blk wx (w.heap.size + 1) 51 r.cells ∧ Blk wx w.heap.size 51 zero22 ∧ Below w.heap.size w wx ∧ w.heap.size + 2 ≤ wx.heap.size ∧ NewAt wx (w.heap.size + 2) P W r k) (fun i _ => P - (intOf i).toNat)
    case atStart => exact ⟨0, rf0 P W, Nat.zero_le _, rfl, HZ.out.1, HZ.out.2.1, HZ.out.2.2, by omega, HN.out⟩
    case round =>
      clear HZ HN
      obtain ⟨k, r, hkP, rfl, hz, hy, hb, hs, hN⟩ := hrel
      have k_D : wr.cell? ⟨w.heap.size + 1, 0, none⟩ = some (.int .i64 (P : Int)) := (hz.cell 0).trans (by rw [← hN.D]; rfl)
      have k_W : wr.cell? ⟨w.heap.size + 1, 1, none⟩ = some (.int .i64 (W : Int)) := (hz.cell 1).trans (by rw [← hN.W]; rfl)
      have HZ := Lib.hid hz
      have HY := Lib.hid hy
      have Hb := Lib.hid hb
      have HN := Lib.hid hN
      clear hz hy hb hN
      by_cases hlt : k < P
      · have b1 : (k : Int) < (P : Int) := by omega
        have b0 : (0 : Int) ≤ (k : Int) := by omega
        have b8 : (k : Int) < 8 := by omega
        have hza := HZ.out.alloc (.cells (madeCells #[.int .i64 0] W) 3)
        have k_d : (wr.alloc (.cells (madeCells #[.int .i64 0] W) 3)).cell? ⟨w.heap.size + 1, 4 + k, none⟩ = some (r.d k).v := (hza.cell _).trans (RF.cd _ _ (by omega))
        have f_d := hza.fr (4 + k)
        have hz2 := hza.set (4 + k) (Sl.v ⟨some ⟨wr.heap.size, 0, none⟩, W, W⟩)
        rw [RF.cset _ _ _ (by omega)] at hz2
        have HZ2 := Lib.hid hz2
        have HY2 := Lib.hid ((HY.out.alloc (.cells (madeCells #[.int .i64 0] W) 3)).far (p := ⟨w.heap.size + 1, 4 + k, none⟩) (by show w.heap.size ≠ w.heap.size + 1; omega) (Sl.v ⟨some ⟨wr.heap.size, 0, none⟩, W, W⟩))
        have Hb2 := Lib.hid ((Hb.out.trans (below_alloc (w := wr) (B := w.heap.size) Hb.out.size (.cells (madeCells #[.int .i64 0] W) 3))).setCell (p := ⟨w.heap.size + 1, 4 + k, none⟩) (by show w.heap.size ≤ w.heap.size + 1; omega) (Sl.v ⟨some ⟨wr.heap.size, 0, none⟩, W, W⟩))
        have HN2 := Lib.hid (show NewAt ((wr.alloc (.cells (madeCells #[.int .i64 0] W) 3)).setCell ⟨w.heap.size + 1, 4 + k, none⟩ (Sl.v ⟨some ⟨wr.heap.size, 0, none⟩, W, W⟩)) (w.heap.size + 2) P W (r.setd ⟨some ⟨wr.heap.size, 0, none⟩, W, W⟩ k) (k + 1) from
          newat_step HN.out (by omega) (fun v l h => (h.keep (w' := (wr.alloc (.cells (madeCells #[.int .i64 0] W) 3)).setCell ⟨w.heap.size + 1, 4 + k, none⟩ (Sl.v ⟨some ⟨wr.heap.size, 0, none⟩, W, W⟩)) (fun g hg => by
              rw [Below.heap_setCell _ _ _ _ (by have := hg.1; simp only []; omega), Below.heap_alloc _ _ _ hg.2])).mono (fun g hg => ⟨hg.1, by have := hg.2; simp [World.setCell]; omega⟩))
            (by
              obtain ⟨A', c', e, h1, h2⟩ := ints_made wr W
              simp only [List.length_replicate] at e h1 h2
              injection e with e1 e2 e3
              subst e1 e3
              refine ⟨some ⟨wr.heap.size, 0, none⟩, W, by simp [Sl.v], by simp, fun hp0 => ?_⟩
              obtain ⟨g, o, e, hc⟩ := h2 (by simpa using hp0)
              injection e with e
              injection e with e1 e2
              subst e1 e2
              refine ⟨wr.heap.size, 0, rfl, ⟨hs, by simp [World.setCell]⟩, fun i hi => ?_⟩
              rw [cell_far (by simp only []; omega)]
              simpa using hc i (by simpa using hi)))
        clear hza hz2 HZ HY Hb HN
        go_wp2
        go_round
        case rel => exact ⟨k + 1, _, by omega, by go_num, HZ2.out, HY2.out, Hb2.out, by simp [World.setCell]; omega, HN2.out⟩
        case measure => simp [intOf]; omega
      · obtain rfl : k = P := by omega
        have b1 : ¬ (k : Int) < (k : Int) := by omega
        go_wp2_with (first
          | (refine wpList_load_row rfl 51 _ rfl (w.heap.size + 1) rfl 51 r.cells (0, 0) _ HZ.out Tryd.underlying51 rfl rinfo ?_)
          | (refine wpList_store_row rfl 51 _ _ rfl w.heap.size _ rfl rfl 51 zero22 HY.out rinfo rfl (RF.ones _) ?_))
        (try simp only [Exit.inBlock, Exit.then]); refine bodyPost_ret (res_c1 rfl _ rfl (show Blk (wr.setRow w.heap.size r.cells) w.heap.size 51 r.cells from setRow_heap _ _ zero22 _ 51 (0, 0) HY.out) Tryd.underlying51 rfl rinfo) rfl ?_
        have hN := HN.out
        refine ⟨r, rfl, below_setRow Hb.out (Nat.le_refl _) _, hN.D, hN.W, hN.H.trans (by rw [HHT.out.1]; rfl), hN.T.trans (by rw [HHT.out.2]; rfl), fun i hi => ?_, hN.pu.trans rfl, hN.po.trans rfl, fun e => by simp [RS.new] at e, fun e => by simp [RS.new] at e, fun e => by simp [RS.new] at e, fun e => by simp [RS.new] at e, fun e => by simp [RS.new] at e, fun e => by simp [RS.new] at e, fun e => by simp [RS.new] at e, fun e => by simp [RS.new] at e, fun e => by simp [RS.new] at e, fun e => by simp [RS.new] at e, fun e => by simp [RS.new] at e⟩
        have hrz : (RS.new k W).row i = List.replicate W 0 := row_zero k W i hi
        rw [hrz]
        refine ((hN.d i hi).keep (w' := wr.setRow w.heap.size r.cells) (fun g hg => setRow_other _ _ _ _ (by have := hg.1; omega))).mono (fun g hg => ⟨by have := hg.1; omega, by simpa using hg.2⟩)
end Go.Proofs.YtelfclcljdjohaaDoor
