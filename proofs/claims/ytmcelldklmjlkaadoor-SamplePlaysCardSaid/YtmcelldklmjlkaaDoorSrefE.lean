/- The reference's port: New. -/
import Derived.Test.YtmcelldklmjlkaaDoorSrefD
import Derived.Test.YtmcelldklmjlkaaDoorSampB
namespace Go.Proofs.YtmcelldklmjlkaaDoor
open Go.RowKit

set_option maxRecDepth 100000 in
set_option maxHeartbeats 3200000 in
theorem pnew_any (w : World) (n fr : Int) :
    Calls Tryd.prog 15 #[.agg (chanC n fr)] w fun e w' => ∃ f', e = .returned (PF.v f') ∧ Below w.heap.size w w' ∧ PRefIn w' (From w.heap.size w') f' (SP.new (pwords n) fr) := by
  have hw := pwords_bd n
  have e1 : ((pwords n : Nat) : Int) = min (max n 1) 4 := by unfold pwords; omega
  generalize pwords n = m at *
  have HE := Lib.hid e1
  clear e1
  have hw2 : wordsOf ((m : Int) + 2) = m + 2 := by unfold wordsOf; omega
  have HN := Lib.hid (fun w1 => refnew_any ((m : Int) + 2) w1)
  rw [hw2] at HN
  clear hw2
  unfold PF.v chanC
  go_enter Tryd.func15, Tryd.ntmps15
  go_upto_region 1 with (fail)
  go_cut [1, 2, 3] (fun p0 p1 p2 wx => ∃ x y, p0 = .pointer (some ⟨x, 0, none⟩) ∧ p1 = .pointer (some ⟨y, 0, none⟩) ∧ p2 = .int .i64 (m : Int) ∧ wx.cell? ⟨x, 4, none⟩ = some (.int .i64 fr) ∧ Blk wx y 48 zero22 ∧ Below w.heap.size w wx ∧ w.heap.size ≤ y ∧ x ≠ y)
  case first =>
    rcases clamp_first' n 4 (by omega) with ⟨g1, f1⟩ | ⟨g1, g2, f1⟩ | ⟨g1, f1⟩
    all_goals
      rw [f1] at HE
      clear f1
      go_wp2_with fail
      go_meet
      exact ⟨_, _, rfl, rfl, by rw [HE.out], (Blk.cell (heap_alloc2_old w _ _) 4).trans rfl, heap_alloc2_new w _ _, (below_alloc (Nat.le_refl _) _).trans (below_alloc (by simp) _), by omega, by omega⟩
  case rest =>
    obtain ⟨x, y, rfl, rfl, rfl, hx, hy, hb, gy, nxy⟩ := hcut
    have HY := Lib.hid hy
    have HB := Lib.hid hb
    clear hy hb
    have hxl := World.block_lt_of_cell? _ _ hx
    have hyl := HY.out.lt
    have hwm : IntKind.i64.wrap ((m : Int) + 2) = (m : Int) + 2 := by rw [IntKind.wrap_i64]; omega
    go_wp2_with fail
    refine wp_region_held_drew (S := fun w' => w'.cell? ⟨x, 4, none⟩ = some (.int .i64 fr)) rfl hx fun hS => ?_
    refine wpAnyH_take (i := 0) (v := .int .i64 (m : Int)) rfl (by kernel_rfl) (by kernel_rfl) (by kernel_rfl) (fun _ _ _ h => h) (Or.inl ⟨by kernel_rfl, fun w' _ => by go_simp⟩) hS ?_
    refine wpAnyH_take (i := 1) (v := .pointer (some ⟨x, 4, none⟩)) rfl (by kernel_rfl) (by kernel_rfl) (by kernel_rfl) (fun _ _ _ h => h) (Or.inl ⟨by kernel_rfl, fun w' _ => by go_simp⟩) hS ?_
    refine wpAnyH_take (i := 2) (v := .int .i64 fr) rfl (by kernel_rfl) (by kernel_rfl) (by kernel_rfl) (fun _ _ _ h => h) (Or.inl ⟨by kernel_rfl, fun w' hS' => by have q := hS'; go_simp⟩) hS ?_
    refine wpAnyH_take (i := 3) (v := .int .i64 (m : Int)) rfl (by kernel_rfl) (by kernel_rfl) (by kernel_rfl) (fun _ _ _ h => h) (Or.inl ⟨by kernel_rfl, fun w' _ => by go_simp⟩) hS ?_
    refine wpAnyH_take (i := 4) (v := .int .i64 ((m : Int) + 2)) rfl (by kernel_rfl) (by kernel_rfl) (by kernel_rfl) (fun _ _ _ h => h) (Or.inl ⟨by kernel_rfl, fun w' _ => by go_simp⟩) hS ?_
    refine wpAnyH_ready (rs := [5]) (by kernel_rfl) (by simp) ?_
    refine AllReadyH.cons rfl (fun K hK => ?_) AllReadyH.nil
    go_simp
    refine (HN.out _).mono ?_
    rintro e w2 ⟨r', rfl, hb2, hr⟩
    have hb3 : Below wc.heap.size wc w2 := (Below.refl _ wc).drew.trans hb2
    refine hK.out _ _ ((hb3.cell (p := ⟨x, 4, none⟩) hxl).trans hx) fun hS2 => ?_
    clear hK
    unfold RF.v
    refine wpAnyH_take (i := 6) (v := .agg ({ wo := m, re := fr, se := 0, r := r' } : PF).cells) rfl (by kernel_rfl) (by kernel_rfl) (by kernel_rfl) (fun _ _ _ h => h) (Or.inl ⟨by kernel_rfl, fun w' _ => by kernel_rfl⟩) hS2 ?_
    refine wpAnyH_ready (rs := [7]) (by kernel_rfl) (by simp) ?_
    refine AllReadyH.cons rfl (fun K hK => ?_) AllReadyH.nil
    rw [if_pos (by kernel_rfl)]
    have HY2 := Lib.hid (HY.out.below hb3 hyl)
    refine wp_store_row 48 _ _ rfl y ({ wo := m, re := fr, se := 0, r := r' } : PF).cells (by kernel_rfl) (by kernel_rfl) 48 _ HY2.out pinfo rfl (PF.ones _) ?_
    have hbf : Below w.heap.size w (w2.setRow y ({ wo := m, re := fr, se := 0, r := r' } : PF).cells) := below_setRow (HB.out.trans (hb3.mono HB.out.size)) gy _
    have HF := Lib.hid (show RefIn (w2.setRow y ({ wo := m, re := fr, se := 0, r := r' } : PF).cells) (From w.heap.size (w2.setRow y ({ wo := m, re := fr, se := 0, r := r' } : PF).cells)) r' (FS.new (m + 2)) from hr.map fun _ _ k => (k.keep fun g hg => setRow_other _ _ _ _ (by
      have h0 : wc.heap.size ≤ wc.drew.heap.size := Nat.le_refl _
      have := hg.1
      omega)).mono fun g hg => ⟨by
      have h0 : wc.heap.size ≤ wc.drew.heap.size := Nat.le_refl _
      have := hg.1
      have := HB.out.size
      omega, by simpa using hg.2⟩)
    refine hK.out _ _ ((cell_setRow_other _ _ _ _ nxy).trans hS2) fun hS3 => ?_
    refine wpAnyH_done (by kernel_rfl) ?_ _
    go_simp
    go_wp2
    (try simp only [Exit.inBlock, Exit.then]); refine bodyPost_ret (res_c1 rfl _ rfl (show Blk (w2.setRow y ({ wo := m, re := fr, se := 0, r := r' } : PF).cells) y 48 _ from setRow_heap _ _ _ _ 48 (0, 0) HY2.out) Tryd.underlying48 rfl pinfo) rfl ?_
    exact ⟨({ wo := m, re := fr, se := 0, r := r' } : PF), rfl, hbf, rfl, rfl, rfl, HF.out⟩
end Go.Proofs.YtmcelldklmjlkaaDoor
