/- The reference's register: New. -/
import Derived.Test.YtmcelldklmjlkaaDoorFrefA
import Derived.Deep.CutBlock
import Derived.StillTailTactics
namespace Go.Proofs.YtmcelldklmjlkaaDoor
open Go.RowKit

def rf00 (a : Int) : RF := ⟨a, 0, 0, 0, 0, nil0, nil0, nil0, nil0, false, false, 0, 0, 0, 0, 0, 0, nil0, nil0⟩
def rf0 (W : Nat) : RF := rf00 W
theorem clamp_first' (n hi : Int) (h : 1 ≤ hi) : n < 1 ∧ min (max n 1) hi = 1 ∨ 1 ≤ n ∧ n ≤ hi ∧ min (max n 1) hi = n ∨ hi < n ∧ min (max n 1) hi = hi := by omega
theorem ints_made' (w : World) (n : Nat) : IntsIn (w.alloc (.cells (madeCells #[.int .i64 0] n) 3)) (.slice (some ⟨w.heap.size, 0, none⟩) n n) (List.replicate n 0) := by
  refine ⟨_, n, by simp, by simp, fun _ => ⟨w.heap.size, 0, rfl, fun i hi => ?_⟩⟩
  have := (Blk.new w 3 (madeCells #[.int .i64 0] n)).cell (0 + i)
  rw [this, nums_zeros]
  simp at hi
  simp [nums, hi]
/-- Slices that lie in the blocks from B on. -/
def From (B : Nat) (w : World) : Nat → Prop := fun k => B ≤ k ∧ k < w.heap.size
structure NewAt (w : World) (B Wn : Nat) (r : RF) (k : Nat) : Prop where
  W : r.W = Wn
  La : r.La = 0
  Re : r.Re = 0
  sl : ∀ p, r.s p = 0
  wr : r.wr = false
  rd : r.rd = false
  pa : r.pa = 0
  own : r.own = 0
  pl : r.pl = 0
  az : r.az = 0
  d : ∀ j, j < k → IntsX w (From B w) (r.d j).v (List.replicate Wn 0)
theorem newat_step {w w' : World} {B W k : Nat} {r : RF} {sl : Sl} (h : NewAt w B W r k) (hk : k < 4) (hf : ∀ v l, IntsX w (From B w) v l → IntsX w' (From B w') v l) (hs : IntsX w' (From B w') sl.v (List.replicate W 0)) : NewAt w' B W (r.setd sl k) (k + 1) := by
  have hd := fun j hj => RF.dset r sl k j hk hj
  have e : (r.setd sl k).W = r.W ∧ (r.setd sl k).La = r.La ∧ (r.setd sl k).Re = r.Re ∧ (∀ p, (r.setd sl k).s p = r.s p) ∧ (r.setd sl k).wr = r.wr ∧ (r.setd sl k).rd = r.rd ∧ (r.setd sl k).pa = r.pa ∧ (r.setd sl k).own = r.own ∧ (r.setd sl k).pl = r.pl ∧ (r.setd sl k).az = r.az := by
    match k, hk with
    | 0, _ => exact ⟨rfl, rfl, rfl, fun p => by match p with | 0 => rfl | _ + 1 => rfl, rfl, rfl, rfl, rfl, rfl, rfl⟩
    | 1, _ => exact ⟨rfl, rfl, rfl, fun p => by match p with | 0 => rfl | _ + 1 => rfl, rfl, rfl, rfl, rfl, rfl, rfl⟩
    | 2, _ => exact ⟨rfl, rfl, rfl, fun p => by match p with | 0 => rfl | _ + 1 => rfl, rfl, rfl, rfl, rfl, rfl, rfl⟩
    | 3, _ => exact ⟨rfl, rfl, rfl, fun p => by match p with | 0 => rfl | _ + 1 => rfl, rfl, rfl, rfl, rfl, rfl, rfl⟩
  obtain ⟨e1, e2, e3, e4, e5, e6, e7, e8, e9, e10⟩ := e
  refine ⟨e1.trans h.W, e2.trans h.La, e3.trans h.Re, fun p => (e4 p).trans (h.sl p), e5.trans h.wr, e6.trans h.rd, e7.trans h.pa, e8.trans h.own, e9.trans h.pl, e10.trans h.az, fun j hj => ?_⟩
  rw [hd j (by omega)]
  by_cases ej : j = k
  · rw [if_pos ej]; exact hs
  · rw [if_neg ej]; exact hf _ _ (h.d j (by omega))
theorem newat_keep {w w' : World} {B W k : Nat} {r : RF} (h : NewAt w B W r k) (hk : w'.heap = w.heap) : NewAt w' B W r k :=
  ⟨h.W, h.La, h.Re, h.sl, h.wr, h.rd, h.pa, h.own, h.pl, h.az, fun j hj => ((h.d j hj).keep fun _ _ => by rw [hk]).mono fun g hg => ⟨hg.1, by rw [hk]; exact hg.2⟩⟩
theorem row_zero (W i : Nat) (hi : i < 4) : (FS.new W).row i = List.replicate W 0 := by
  have := Nat.mul_le_mul_right W (show i + 1 ≤ 4 from hi)
  rw [Nat.add_mul] at this
  unfold FS.row FS.new
  simp only [List.drop_replicate, List.take_replicate]
  congr 1
  omega
theorem g_zero (W i : Nat) : (FS.new W).g i = 0 := by
  unfold FS.g FS.new
  simp only [List.getElem?_replicate]
  split <;> rfl
set_option maxRecDepth 100000 in
set_option maxHeartbeats 3200000 in
theorem refnew_any (m : Int) (w : World) :
    Calls Tryd.prog 39 #[.int .i64 m] w fun e w' => ∃ r, e = .returned (RF.v r) ∧ Below w.heap.size w w' ∧ RefIn w' (From w.heap.size w') r (FS.new (wordsOf m)) := by
  have hw := wordsOf_bd m
  have e1 : ((wordsOf m : Nat) : Int) = min (max m 1) 6 := by unfold wordsOf; omega
  generalize wordsOf m = W at *
  have HE := Lib.hid e1
  clear e1
  unfold RF.v
  go_enter Tryd.func39, Tryd.ntmps39
  go_upto_region 1 with (fail)
  go_cut [2, 3] (fun p q wx => p = .pointer (some ⟨w.heap.size, 0, none⟩) ∧ q = .pointer (some ⟨w.heap.size + 1, 0, none⟩) ∧ Blk wx (w.heap.size + 1) 46 (rf0 W).cells ∧ Blk wx w.heap.size 46 zero19 ∧ Below w.heap.size w wx ∧ wx.heap.size = w.heap.size + 2)
  case first =>
    rcases clamp_first' m 6 (by omega) with ⟨g1, f1⟩ | ⟨g1, g2, f1⟩ | ⟨g1, f1⟩
    all_goals
      rw [f1] at HE
      clear f1
      go_wp2_with (first
        | (refine wpList_store_row rfl 46 _ _ rfl (w.heap.size + 1) (rf00 1).cells rfl rfl 46 zero19 (heap_alloc2_new w _ _) rinfo rfl (RF.ones _) ?_)
        | (refine wpList_store_row rfl 46 _ _ rfl (w.heap.size + 1) (rf00 m).cells rfl rfl 46 zero19 (heap_alloc2_new w _ _) rinfo rfl (RF.ones _) ?_)
        | (refine wpList_store_row rfl 46 _ _ rfl (w.heap.size + 1) (rf00 6).cells rfl rfl 46 zero19 (heap_alloc2_new w _ _) rinfo rfl (RF.ones _) ?_))
      go_meet
      have hb2 := (below_alloc (w := w) (Nat.le_refl _) (.cells zero19 46)).trans (below_alloc (w := w.alloc (.cells zero19 46)) (B := w.heap.size) (by simp) (.cells zero19 46))
      exact ⟨rfl, rfl, by rw [show rf0 W = rf00 (W : Int) from rfl, HE.out]; exact setRow_heap _ _ zero19 _ 46 (0, 0) (heap_alloc2_new w _ _), (show Blk _ _ 46 zero19 from (setRow_other _ _ _ _ (by omega)).trans (heap_alloc2_old w _ _)), below_setRow hb2 (by omega) _, by simp⟩
  case rest =>
    obtain ⟨rfl, rfl, hz, hy, hb, hsz⟩ := hcut
    have HZ := Lib.hid (And.intro hz (And.intro hy hb))
    have HN := Lib.hid (show NewAt wc (w.heap.size + 2) W (rf0 W) 0 from ⟨rfl, rfl, rfl, fun p => by match p with | 0 => rfl | _ + 1 => rfl, rfl, rfl, rfl, rfl, rfl, rfl, fun j hj => by omega⟩)
    have hmk := fun W' => run_make_row' (P := Tryd.prog) 29 3 (.int .i64 0) 8 Tryd.underlying29 infoInt rfl .i64 .i64 W (by omega) (by omega) W'
    clear hz hy hb
    go_wp2_with fail
    go_loopw [4] (fun i wx => ∃ (k : Nat) (r : RF), k ≤ 4 ∧ i = .int .i64 k ∧ Blk wx (w.heap.size + 1) 46 r.cells ∧ Blk wx w.heap.size 46 zero19 ∧ Below w.heap.size w wx ∧ w.heap.size + 2 ≤ wx.heap.size ∧ NewAt wx (w.heap.size + 2) W r k) (fun i _ => 4 - (intOf i).toNat)
    case atStart => exact ⟨0, rf0 W, Nat.zero_le _, rfl, HZ.out.1, HZ.out.2.1, HZ.out.2.2, by omega, HN.out⟩
    case round =>
      clear HZ HN
      obtain ⟨k, r, hkP, rfl, hz, hy, hb, hs, hN⟩ := hrel
      have k_W : wr.cell? ⟨w.heap.size + 1, 0, none⟩ = some (.int .i64 (W : Int)) := (hz.cell 0).trans (by rw [← hN.W]; rfl)
      have HZ := Lib.hid hz
      have HY := Lib.hid hy
      have Hb := Lib.hid hb
      have HN := Lib.hid hN
      clear hz hy hb hN
      by_cases hlt : k < 4
      · have b1 : (k : Int) < 4 := by omega
        have b0 : (0 : Int) ≤ (k : Int) := by omega
        obtain ⟨p, q, hpq, hp, hq⟩ : ∃ p q : Nat, k = 2 * p + q ∧ p ≤ 1 ∧ q ≤ 1 := ⟨k / 2, k % 2, by omega, by omega, by omega⟩
        have t1 : (k : Int).tdiv 2 = (p : Int) := by rw [Int.tdiv_eq_ediv_of_nonneg b0]; omega
        have t2 : (k : Int).tmod 2 = (q : Int) := by rw [Int.tmod_eq_emod_of_nonneg b0]; omega
        have w1 : IntKind.i64.wrap (p : Int) = (p : Int) := by rw [IntKind.wrap_i64]; omega
        have w2 : IntKind.i64.wrap (q : Int) = (q : Int) := by rw [IntKind.wrap_i64]; omega
        have b2 : (p : Int) < 2 := by omega
        have b3 : (0 : Int) ≤ (p : Int) := by omega
        have b4 : (q : Int) < 2 := by omega
        have b5 : (0 : Int) ≤ (q : Int) := by omega
        go_wp2_with fail
        obtain ⟨wd, hwd⟩ : ∃ wd, wd = wr.drew := ⟨_, rfl⟩
        have hs : w.heap.size + 2 ≤ wd.heap.size := by rw [hwd]; exact hs
        have HZ := Lib.hid (show Blk wd (w.heap.size + 1) 46 r.cells by rw [hwd]; exact HZ.out)
        have HY := Lib.hid (show Blk wd w.heap.size 46 zero19 by rw [hwd]; exact HY.out)
        have Hb := Lib.hid (show Below w.heap.size w wd by rw [hwd]; exact Hb.out.drew)
        have HN := Lib.hid (show NewAt wd (w.heap.size + 2) W r k by rw [hwd]; exact newat_keep HN.out rfl)
        have k_W : wd.cell? ⟨w.heap.size + 1, 0, none⟩ = some (.int .i64 (W : Int)) := by rw [hwd]; exact k_W
        have hza := HZ.out.alloc (.cells (madeCells #[.int .i64 0] W) 3)
        have k_d : (wd.alloc (.cells (madeCells #[.int .i64 0] W) 3)).cell? ⟨w.heap.size + 1, 5 + p * 2 + q, none⟩ = some (r.d k).v := (hza.cell _).trans (by rw [show 5 + p * 2 + q = 5 + k by omega]; exact RF.cd _ _ (by omega))
        have f_d := hza.fr (5 + p * 2 + q)
        have hz2 := hza.set (5 + p * 2 + q) (Sl.v ⟨some ⟨wd.heap.size, 0, none⟩, W, W⟩)
        rw [show 5 + p * 2 + q = 5 + k by omega, RF.cset _ _ _ (by omega), show 5 + k = 5 + p * 2 + q by omega] at hz2
        have HZ2 := Lib.hid hz2
        have HY2 := Lib.hid ((HY.out.alloc (.cells (madeCells #[.int .i64 0] W) 3)).far (p := ⟨w.heap.size + 1, 5 + p * 2 + q, none⟩) (by show w.heap.size ≠ w.heap.size + 1; omega) (Sl.v ⟨some ⟨wd.heap.size, 0, none⟩, W, W⟩))
        have Hb2 := Lib.hid ((Hb.out.trans (below_alloc (w := wd) (B := w.heap.size) Hb.out.size (.cells (madeCells #[.int .i64 0] W) 3))).setCell (p := ⟨w.heap.size + 1, 5 + p * 2 + q, none⟩) (by show w.heap.size ≤ w.heap.size + 1; omega) (Sl.v ⟨some ⟨wd.heap.size, 0, none⟩, W, W⟩))
        have HN2 := Lib.hid (show NewAt ((wd.alloc (.cells (madeCells #[.int .i64 0] W) 3)).setCell ⟨w.heap.size + 1, 5 + p * 2 + q, none⟩ (Sl.v ⟨some ⟨wd.heap.size, 0, none⟩, W, W⟩)) (w.heap.size + 2) W (r.setd ⟨some ⟨wd.heap.size, 0, none⟩, W, W⟩ k) (k + 1) from
          newat_step HN.out (by omega) (fun v l h => (h.keep (w' := (wd.alloc (.cells (madeCells #[.int .i64 0] W) 3)).setCell ⟨w.heap.size + 1, 5 + p * 2 + q, none⟩ (Sl.v ⟨some ⟨wd.heap.size, 0, none⟩, W, W⟩)) (fun g hg => by
              rw [Below.heap_setCell _ _ _ _ (by have := hg.1; simp only []; omega), Below.heap_alloc _ _ _ hg.2])).mono (fun g hg => ⟨hg.1, by have := hg.2; simp [World.setCell]; omega⟩))
            (by
              obtain ⟨A', c', e, h1, h2⟩ := ints_made' wd W
              simp only [List.length_replicate] at e h1 h2
              injection e with e1 e2 e3
              subst e1 e3
              refine ⟨some ⟨wd.heap.size, 0, none⟩, W, by simp [Sl.v], by simp, fun hp0 => ?_⟩
              obtain ⟨g, o, e, hc⟩ := h2 (by simpa using hp0)
              injection e with e
              injection e with e1 e2
              subst e1 e2
              refine ⟨wd.heap.size, 0, rfl, ⟨hs, by simp [World.setCell]⟩, fun i hi => ?_⟩
              rw [cell_far (by simp only []; omega)]
              simpa using hc i (by simpa using hi)))
        clear hza hz2 HZ HY Hb HN hpq
        refine wp_region_held_drew (S := fun w' => w'.cell? ⟨w.heap.size + 1, 0, none⟩ = some (.int .i64 (W : Int))) rfl (by rw [← hwd]; exact k_W) fun hS => ?_
        rw [← hwd]
        rw [← hwd] at hS
        clear hwd
        refine wpAnyH_take (i := 0) (v := .int .i64 (k : Int)) rfl (by kernel_rfl) (by kernel_rfl) (by kernel_rfl) (fun _ _ _ h => h) (Or.inl ⟨by kernel_rfl, fun w' _ => by go_simp⟩) hS ?_
        refine wpAnyH_take (i := 1) (v := .int .i64 (p : Int)) rfl (by kernel_rfl) (by kernel_rfl) (by kernel_rfl) (fun _ _ _ h => h) (Or.inl ⟨by kernel_rfl, fun w' _ => by go_simp⟩) hS ?_
        refine wpAnyH_take (i := 2) (v := .int .i64 (k : Int)) rfl (by kernel_rfl) (by kernel_rfl) (by kernel_rfl) (fun _ _ _ h => h) (Or.inl ⟨by kernel_rfl, fun w' _ => by go_simp⟩) hS ?_
        refine wpAnyH_take (i := 3) (v := .int .i64 (q : Int)) rfl (by kernel_rfl) (by kernel_rfl) (by kernel_rfl) (fun _ _ _ h => h) (Or.inl ⟨by kernel_rfl, fun w' _ => by go_simp⟩) hS ?_
        refine wpAnyH_take (i := 4) (v := .pointer (some ⟨w.heap.size + 1, 0, none⟩)) rfl (by kernel_rfl) (by kernel_rfl) (by kernel_rfl) (fun _ _ _ h => h) (Or.inl ⟨by kernel_rfl, fun w' _ => by go_simp⟩) hS ?_
        refine wpAnyH_take (i := 5) (v := .int .i64 (W : Int)) rfl (by kernel_rfl) (by kernel_rfl) (by kernel_rfl) (fun _ _ _ h => h) (Or.inl ⟨by kernel_rfl, fun w' hS' => by have q1 := hS'; go_simp⟩) hS ?_
        refine wpAnyH_take (i := 7) (v := .pointer (some ⟨w.heap.size + 1, 5, none⟩)) rfl (by kernel_rfl) (by kernel_rfl) (by kernel_rfl) (fun _ _ _ h => h) (Or.inl ⟨by kernel_rfl, fun w' _ => by go_simp⟩) hS ?_
        refine wpAnyH_take (i := 8) (v := .pointer (some ⟨w.heap.size + 1, 5 + p * 2, none⟩)) rfl (by kernel_rfl) (by kernel_rfl) (by kernel_rfl) (fun _ _ _ h => h) (Or.inl ⟨by kernel_rfl, fun w' _ => by go_simp⟩) hS ?_
        refine wpAnyH_ready (rs := [6]) (by kernel_rfl) (by simp) ?_
        refine AllReadyH.cons rfl (fun K hK => ?_) AllReadyH.nil
        go_simp
        refine hK.out _ _ ((World.cell?_alloc_some _ _ _ (by rw [k_W]; rfl)).trans k_W) fun hS2 => ?_
        clear hK
        refine wpAnyH_take (i := 9) (v := .pointer (some ⟨w.heap.size + 1, 5 + p * 2 + q, none⟩)) rfl (by kernel_rfl) (by kernel_rfl) (by kernel_rfl) (fun _ _ _ h => h) (Or.inl ⟨by kernel_rfl, fun w' _ => by go_simp⟩) hS2 ?_
        refine wpAnyH_ready (rs := [10]) (by kernel_rfl) (by simp) ?_
        refine AllReadyH.cons rfl (fun K hK => ?_) AllReadyH.nil
        go_simp
        refine hK.out _ _ ((cell_off (by omega)).trans hS2) fun hS3 => ?_
        clear hK hS hS2 hS3
        refine wpAnyH_done (by kernel_rfl) ?_ _
        go_simp
        go_wp2
        go_round
        case rel => exact ⟨k + 1, _, by omega, by go_num, HZ2.out, HY2.out, Hb2.out, by simp [World.setCell]; omega, HN2.out⟩
        case measure => simp [intOf]; omega
      · obtain rfl : k = 4 := by omega
        have b1 : ¬ ((4 : Nat) : Int) < 4 := by omega
        go_wp2_with (first
          | (refine wpList_load_row rfl 46 _ rfl (w.heap.size + 1) rfl 46 r.cells (0, 0) _ HZ.out Tryd.underlying46 rfl rinfo ?_)
          | (refine wpList_store_row rfl 46 _ _ rfl w.heap.size _ rfl rfl 46 zero19 HY.out rinfo rfl (RF.ones _) ?_))
        (try simp only [Exit.inBlock, Exit.then]); refine bodyPost_ret (res_c1 rfl _ rfl (show Blk (wr.setRow w.heap.size r.cells) w.heap.size 46 r.cells from setRow_heap _ _ zero19 _ 46 (0, 0) HY.out) Tryd.underlying46 rfl rinfo) rfl ?_
        have hN := HN.out
        refine ⟨r, rfl, below_setRow Hb.out (Nat.le_refl _) _, hN.W, by rw [hN.La, g_zero]; rfl, by rw [hN.Re, g_zero]; rfl, fun p hp => by rw [hN.sl, g_zero]; rfl, fun i hi => ?_, hN.wr, hN.rd, fun e => absurd rfl e, fun e => absurd rfl e, hN.pa, hN.own, hN.pl, hN.az, fun e => absurd rfl e, fun e => absurd rfl e, fun e => absurd rfl e⟩
        rw [row_zero W i hi]
        refine ((hN.d i hi).keep (w' := wr.setRow w.heap.size r.cells) (fun g hg => setRow_other _ _ _ _ (by have := hg.1; omega))).mono (fun g hg => ⟨by have := hg.1; omega, by simpa using hg.2⟩)
end Go.Proofs.YtmcelldklmjlkaaDoor
