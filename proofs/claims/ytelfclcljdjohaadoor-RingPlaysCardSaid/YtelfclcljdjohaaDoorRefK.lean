/- The reference's ring: Step. -/
import Derived.Test.YtelfclcljdjohaaDoorRefJ
namespace Go.Proofs.YtelfclcljdjohaaDoor
open Go.RowKit

def zero22 : Array Value := #[.int .i64 0, .int .i64 0, .int .i64 0, .int .i64 0, .slice none 0 0, .slice none 0 0, .slice none 0 0, .slice none 0 0, .slice none 0 0, .slice none 0 0, .slice none 0 0, .slice none 0 0, .bool false, .bool false, .int .i64 0, .int .i64 0, .int .i64 0, .int .i64 0, .int .i64 0, .int .i64 0, .slice none 0 0, .slice none 0 0]
theorem still_row {P : Program} {o : Oper} {a : Act} {w : World} {next : Act → Prop} (ty : TypeId) (x : Operand) (ho : o.op = .load ty x)
    (g : Nat) (hx : a.eval x = .pointer (some ⟨g, 0, none⟩)) {t : TypeId} {cs : Array Value} {d : TypeDesc} (hg : Blk w g t cs)
    (hu : P.underlying ty = some d) (hd : (match d with | .struct _ | .array _ _ => true | _ => false) = true) (hi : (P.info? ty).map (·.size) = some cs.size)
    (h : next (a.put o.dst (.agg cs))) : o.still P a w next := by
  unfold Oper.still
  rw [yields_row ty x ho g hx hg hu hd hi, Oper.stillUpon_value]
  exact h
set_option maxRecDepth 100000 in
set_option maxHeartbeats 3200000 in
theorem refstep1 {w : World} {X : Nat → Prop} {r : RF} {s : RS} (h : RefIn w X r s) (_ : s.ok) (_ : ∀ k, X k → k < w.heap.size) (h0 : s.ia = 0) :
    Calls Tryd.prog 30 #[r.v, .bool true] w fun e w' => ∃ r' A c, e = .returned (.tuple #[RF.v r', .slice A (s.step true).2.1.length c, .bool (s.step true).2.2.1, .int .i64 (s.step true).2.2.2]) ∧ Below w.heap.size w w' ∧ RefIn w' (newX X w w') r' (s.step true).1 ∧ IntsX w' (newX X w w') (.slice A (s.step true).2.1.length c) (s.step true).2.1 := by
  rw [show s.step true = (s, [], false, 1) by simp [RS.step, RS.stepW, h0]]
  have hp : r.pu = false := by rw [h.pu, h0]; rfl
  unfold RF.v
  go_enter Tryd.func30, Tryd.ntmps30
  go_upto_region 0 with (fail)
  go_cut [2, 4, 5, 6, 7] (fun p0 p1 p2 p3 p4 wx => ∃ x y, p0 = .pointer (some ⟨x, 0, none⟩) ∧ p1 = .pointer (some ⟨y, 0, none⟩) ∧ p2 = .slice none 0 0 ∧ p3 = .bool false ∧ p4 = .int .i64 0 ∧ Boxed 51 w wx x y r.cells)
  case first =>
    go_wp2_with fail
    go_meet
    exact ⟨_, _, rfl, rfl, rfl, rfl, rfl, boxed_new _ _ _ _ rfl⟩
  case rest =>
    obtain ⟨x, y, rfl, rfl, rfl, rfl, rfl, hB⟩ := hcut
    have HR := Lib.hid (show ∀ w', Below w.heap.size w w' → RefIn w' (newX X w w') r s from fun w' hb => h.go hb)
    have k_pu : wc.cell? ⟨x, 12, none⟩ = some (.bool r.pu) := (hB.hx.cell 12).trans rfl
    rw [hp] at k_pu
    clear h hp h0
    have HB2 := Lib.hid (show Boxed 51 w (wc) x y (r : RF).cells from hB)
    obtain ⟨zs, hz, hy⟩ := HB2.out.hy
    have HY := Lib.hid (And.intro hz hy)
    clear hB hz hy
    go_wp2_with (first
      | (refine wpList_load_row rfl 51 _ rfl x rfl 51 _ (0, 0) _ HB2.out.hx Tryd.underlying51 rfl rinfo ?_)
      | (refine wpList_store_row rfl 51 _ _ rfl y _ rfl rfl 51 zs HY.out.2 rinfo HY.out.1 (RF.ones _) ?_))
    (try simp only [Exit.inBlock, Exit.then]); refine bodyPost_ret (res_c4 rfl _ rfl HB2.out.row Tryd.underlying51 rfl rinfo) rfl ?_
    exact ⟨r, none, 0, rfl, HB2.out.end_, HR.out _ HB2.out.end_, IntsX.nil _ _⟩
set_option maxRecDepth 100000 in
set_option maxHeartbeats 3200000 in
theorem refstep3 {w : World} {X : Nat → Prop} {r : RF} {s : RS} (h : RefIn w X r s) (_ : s.ok) (_ : ∀ k, X k → k < w.heap.size) (h0 : s.oa = 0) :
    Calls Tryd.prog 30 #[r.v, .bool false] w fun e w' => ∃ r' A c, e = .returned (.tuple #[RF.v r', .slice A (s.step false).2.1.length c, .bool (s.step false).2.2.1, .int .i64 (s.step false).2.2.2]) ∧ Below w.heap.size w w' ∧ RefIn w' (newX X w w') r' (s.step false).1 ∧ IntsX w' (newX X w w') (.slice A (s.step false).2.1.length c) (s.step false).2.1 := by
  rw [show s.step false = (s, [], false, 1) by simp [RS.step, RS.stepR, h0]]
  have hp : r.po = false := by rw [h.po, h0]; rfl
  unfold RF.v
  go_enter Tryd.func30, Tryd.ntmps30
  go_upto_region 0 with (fail)
  go_cut [2, 4, 5, 6, 7] (fun p0 p1 p2 p3 p4 wx => ∃ x y, p0 = .pointer (some ⟨x, 0, none⟩) ∧ p1 = .pointer (some ⟨y, 0, none⟩) ∧ p2 = .slice none 0 0 ∧ p3 = .bool false ∧ p4 = .int .i64 0 ∧ Boxed 51 w wx x y r.cells)
  case first =>
    go_wp2_with fail
    go_meet
    exact ⟨_, _, rfl, rfl, rfl, rfl, rfl, boxed_new _ _ _ _ rfl⟩
  case rest =>
    obtain ⟨x, y, rfl, rfl, rfl, rfl, rfl, hB⟩ := hcut
    have HR := Lib.hid (show ∀ w', Below w.heap.size w w' → RefIn w' (newX X w w') r s from fun w' hb => h.go hb)
    have k_po : wc.cell? ⟨x, 13, none⟩ = some (.bool r.po) := (hB.hx.cell 13).trans rfl
    rw [hp] at k_po
    clear h hp h0
    have HB2 := Lib.hid (show Boxed 51 w (wc) x y (r : RF).cells from hB)
    obtain ⟨zs, hz, hy⟩ := HB2.out.hy
    have HY := Lib.hid (And.intro hz hy)
    clear hB hz hy
    go_wp2_with (first
      | (refine wpList_load_row rfl 51 _ rfl x rfl 51 _ (0, 0) _ HB2.out.hx Tryd.underlying51 rfl rinfo ?_)
      | (refine wpList_store_row rfl 51 _ _ rfl y _ rfl rfl 51 zs HY.out.2 rinfo HY.out.1 (RF.ones _) ?_))
    (try simp only [Exit.inBlock, Exit.then]); refine bodyPost_ret (res_c4 rfl _ rfl HB2.out.row Tryd.underlying51 rfl rinfo) rfl ?_
    exact ⟨r, none, 0, rfl, HB2.out.end_, HR.out _ HB2.out.end_, IntsX.nil _ _⟩
set_option maxRecDepth 100000 in
set_option maxHeartbeats 3200000 in
theorem refstep2 {w : World} {X : Nat → Prop} {r : RF} {s : RS} (h : RefIn w X r s) (hk : s.ok) (hX : ∀ k, X k → k < w.heap.size) (hia : s.ia ≠ 0) :
    Calls Tryd.prog 30 #[r.v, .bool true] w fun e w' => ∃ r' A c, e = .returned (.tuple #[RF.v r', .slice A (s.step true).2.1.length c, .bool (s.step true).2.2.1, .int .i64 (s.step true).2.2.2]) ∧ Below w.heap.size w w' ∧ RefIn w' (newX X w w') r' (s.step true).1 ∧ IntsX w' (newX X w w') (.slice A (s.step true).2.1.length c) (s.step true).2.1 := by
  rw [show s.step true = (s.stepW.1, [], s.stepW.2.1, s.stepW.2.2) from rfl]
  have hp : r.pu = true := by rw [h.pu]; simp [hia]
  unfold RF.v
  go_enter Tryd.func30, Tryd.ntmps30
  go_upto_region 0 with (fail)
  go_cut [2, 4, 5, 6, 7] (fun p0 p1 p2 p3 p4 wx => ∃ x y, p0 = .pointer (some ⟨x, 0, none⟩) ∧ p1 = .pointer (some ⟨y, 0, none⟩) ∧ p2 = .slice none 0 0 ∧ p3 = .bool false ∧ p4 = .int .i64 0 ∧ Boxed 51 w wx x y r.cells)
  case first =>
    go_wp2_with fail
    go_meet
    exact ⟨_, _, rfl, rfl, rfl, rfl, rfl, boxed_new _ _ _ _ rfl⟩
  case rest =>
    obtain ⟨x, y, rfl, rfl, rfl, rfl, rfl, hB⟩ := hcut
    have k_pu : wc.cell? ⟨x, 12, none⟩ = some (.bool r.pu) := (hB.hx.cell 12).trans rfl
    rw [hp] at k_pu
    have HC := Lib.hid (rpush_any (h.map (w' := wc) (Y := X) fun _ _ k => k.below hB.bel) hk hia)
    have HX := Lib.hid hX
    have HB := Lib.hid hB
    clear h hp hia hX hB hk
    go_wp2_with (refine wpList_load_row rfl 51 _ rfl x rfl 51 _ (0, 0) _ HB.out.hx Tryd.underlying51 rfl rinfo ?_)
    refine HC.out.mono ?_
    rintro e w2 ⟨r', rfl, hb2, hR2⟩
    have HP := Lib.hid (show Passed w wc w2 y r'.cells zero22 from ⟨rfl, rfl, by obtain ⟨ys, hs, hy⟩ := HB.out.hy; exact ⟨ys, hs, hy.below hb2 hy.lt⟩, by obtain ⟨ys, hs, hy⟩ := HB.out.hy; exact hy.lt, HB.out.gy, HB.out.bel.trans (hb2.mono HB.out.bel.size), hb2.size⟩)
    have HR2 := Lib.hid hR2
    obtain ⟨ys, hys, hy1⟩ := HP.out.y1
    have HY := Lib.hid (And.intro hys hy1)
    have HW := Lib.hid HB.out.bel.size
    clear hb2 hR2 HC HB hys hy1 k_pu
    go_wp2_with (first
      | (refine wpList_load_row rfl 51 _ rfl w2.heap.size rfl 51 r'.cells (0, 0) _ HP.out.z1 Tryd.underlying51 rfl rinfo ?_)
      | (refine wpList_store_row rfl 51 _ _ rfl w2.heap.size _ rfl rfl 51 zero22 (heap_alloc_new w2 _) rinfo rfl (RF.ones _) ?_)
      | (refine wpList_store_row rfl 51 _ _ rfl y _ rfl rfl 51 ys HY.out.2 rinfo HY.out.1 (RF.ones _) ?_))
    (try simp only [Exit.inBlock, Exit.then]); refine bodyPost_ret (res_c4 rfl _ rfl HP.out.y2 Tryd.underlying51 rfl rinfo) rfl ?_
    exact ⟨r', none, 0, rfl, HP.out.bel, HR2.out.map fun _ _ k => (k.keep (HP.out.keep HX.out)).mono (HP.out.sub HW.out), IntsX.nil _ _⟩
set_option maxRecDepth 100000 in
set_option maxHeartbeats 3200000 in
theorem refstep4a {w : World} {X : Nat → Prop} {r : RF} {s : RS} (h : RefIn w X r s) (hk : s.ok) (hX : ∀ k, X k → k < w.heap.size) (hoa : s.oa ≠ 0) (hov : (s.stepR.2.2.1 = true ∧ s.stepR.2.2.2 = 0)) :
    Calls Tryd.prog 30 #[r.v, .bool false] w fun e w' => ∃ r' A c, e = .returned (.tuple #[RF.v r', .slice A (s.step false).2.1.length c, .bool (s.step false).2.2.1, .int .i64 (s.step false).2.2.2]) ∧ Below w.heap.size w w' ∧ RefIn w' (newX X w w') r' (s.step false).1 ∧ IntsX w' (newX X w w') (.slice A (s.step false).2.1.length c) (s.step false).2.1 := by
  rw [show s.step false = s.stepR from rfl]
  have hp : r.po = true := by rw [h.po]; simp [hoa]
  unfold RF.v
  go_enter Tryd.func30, Tryd.ntmps30
  go_upto_region 0 with (fail)
  go_cut [2, 4, 5, 6, 7] (fun p0 p1 p2 p3 p4 wx => ∃ x y, p0 = .pointer (some ⟨x, 0, none⟩) ∧ p1 = .pointer (some ⟨y, 0, none⟩) ∧ p2 = .slice none 0 0 ∧ p3 = .bool false ∧ p4 = .int .i64 0 ∧ Boxed 51 w wx x y r.cells)
  case first =>
    go_wp2_with fail
    go_meet
    exact ⟨_, _, rfl, rfl, rfl, rfl, rfl, boxed_new _ _ _ _ rfl⟩
  case rest =>
    obtain ⟨x, y, rfl, rfl, rfl, rfl, rfl, hB⟩ := hcut
    have k_po : wc.cell? ⟨x, 13, none⟩ = some (.bool r.po) := (hB.hx.cell 13).trans rfl
    rw [hp] at k_po
    have HC := Lib.hid (rpop_any (h.map (w' := wc) (Y := X) fun _ _ k => k.below hB.bel) hk hoa)
    have HX := Lib.hid hX
    have HB := Lib.hid hB
    have HOV := Lib.hid hov
    clear h hp hoa hX hB hk hov
    go_wp2_with (refine wpList_load_row rfl 51 _ rfl x rfl 51 _ (0, 0) _ HB.out.hx Tryd.underlying51 rfl rinfo ?_)
    refine HC.out.mono ?_
    rintro e w2 ⟨r', rfl, hb2, hR2, hO2⟩
    have HP := Lib.hid (show Passed w wc w2 y r'.cells zero22 from ⟨rfl, rfl, by obtain ⟨ys, hs, hy⟩ := HB.out.hy; exact ⟨ys, hs, hy.below hb2 hy.lt⟩, by obtain ⟨ys, hs, hy⟩ := HB.out.hy; exact hy.lt, HB.out.gy, HB.out.bel.trans (hb2.mono HB.out.bel.size), hb2.size⟩)
    have HR2 := Lib.hid hR2
    have HO2 := Lib.hid hO2
    obtain ⟨ys, hys, hy1⟩ := HP.out.y1
    have HY := Lib.hid (And.intro hys hy1)
    have HW := Lib.hid HB.out.bel.size
    clear hb2 hR2 HC HB hys hy1 k_po hO2
    have e1 := HOV.out.1
    have e2 := HOV.out.2
    have HI := Lib.hid (HO2.out HOV.out.1 HOV.out.2)
    obtain ⟨Ao, co, hro, -⟩ := HI.out.form
    have k_o : ((w2.alloc (.cells zero22 51)).setRow w2.heap.size r'.cells).cell? ⟨w2.heap.size, 21, none⟩ = some (.slice Ao s.stepR.2.1.length co) := (HP.out.z1.cell 21).trans (by rw [← hro]; rfl)
    rw [e1, e2]
    go_wp2_with (refine wpList_store_row rfl 51 _ _ rfl w2.heap.size _ rfl rfl 51 zero22 (heap_alloc_new w2 _) rinfo rfl (RF.ones _) ?_)
    have hzy : w2.heap.size ≠ y := by have := HP.out.ny; have := HP.out.b2; omega
    refine wp_region_held_drew (S := fun w' => Blk w' w2.heap.size 51 r'.cells) rfl HP.out.z1 fun hS => ?_
    refine wpAnyH_take (i := 0) (v := .agg r'.cells) rfl (by kernel_rfl) (by kernel_rfl) (by kernel_rfl) (fun _ _ _ h => h) (Or.inl ⟨by rfl, fun w' hS' => yields_row 51 _ rfl w2.heap.size rfl hS' Tryd.underlying51 rfl rinfo⟩) hS ?_
    refine wpAnyH_take (i := 1) (v := .pointer (some ⟨w2.heap.size, 21, none⟩)) rfl (by kernel_rfl) (by kernel_rfl) (by kernel_rfl) (fun _ _ _ h => h) (Or.inl ⟨by rfl, fun w' _ => by go_simp⟩) hS ?_
    refine wpAnyH_take (i := 2) (v := .slice Ao s.stepR.2.1.length co) rfl (by kernel_rfl) (by kernel_rfl) (by kernel_rfl) (fun _ _ _ h => h) (Or.inl ⟨by rfl, fun w' hS' => by have q : w'.cell? ⟨w2.heap.size, 21, none⟩ = some (.slice Ao s.stepR.2.1.length co) := (hS'.cell 21).trans (by rw [← hro]; rfl); go_simp⟩) hS ?_
    refine wpAnyH_ready (rs := [3]) (by kernel_rfl) (by simp) ?_
    refine AllReadyH.cons rfl (fun K hK => ?_) AllReadyH.nil
    rw [if_pos (by rfl)]
    refine wp_store_row 51 _ _ rfl y _ rfl rfl 51 ys HY.out.2 rinfo HY.out.1 (RF.ones _) ?_
    refine hK.out _ _ (hS.of (setRow_other _ _ _ _ hzy)) fun hS2 => ?_
    refine wpAnyH_take (i := 4) (v := .slice Ao s.stepR.2.1.length co) rfl (by kernel_rfl) (by kernel_rfl) (by kernel_rfl) (fun _ _ _ h => h) (Or.inl ⟨by rfl, fun w' _ => by go_simp⟩) hS2 ?_
    refine wpAnyH_take (i := 5) (v := .bool true) rfl (by kernel_rfl) (by kernel_rfl) (by kernel_rfl) (fun _ _ _ h => h) (Or.inl ⟨by rfl, fun w' _ => by go_simp⟩) hS2 ?_
    refine wpAnyH_take (i := 6) (v := .int .i64 0) rfl (by kernel_rfl) (by kernel_rfl) (by kernel_rfl) (fun _ _ _ h => h) (Or.inl ⟨by rfl, fun w' _ => by go_simp⟩) hS2 ?_
    refine wpAnyH_done (by kernel_rfl) ?_ _
    go_simp
    go_wp2
    (try simp only [Exit.inBlock, Exit.then]); refine bodyPost_ret (res_c4 rfl _ rfl (show Blk _ y 51 r'.cells from HP.out.y2) Tryd.underlying51 rfl rinfo) rfl ?_
    have HR3 := HR2.out.map (w' := pass w2 y r'.cells zero22) (Y := newX X w (pass w2 y r'.cells zero22)) fun _ _ k => (k.keep (HP.out.keep HX.out)).mono (HP.out.sub HW.out)
    have HI3 := (HI.out.keep (HP.out.keep HX.out)).mono (HP.out.sub HW.out)
    rw [hro] at HI3
    exact ⟨r', Ao, co, by rw [e1, e2]; rfl, HP.out.bel.drew, HR3.map fun _ _ k => (k.keep fun _ _ => rfl).mono fun _ e => e, (HI3.keep fun _ _ => rfl).mono fun _ e => e⟩
set_option maxRecDepth 100000 in
set_option maxHeartbeats 3200000 in
theorem refstep4b {w : World} {X : Nat → Prop} {r : RF} {s : RS} (h : RefIn w X r s) (hk : s.ok) (hX : ∀ k, X k → k < w.heap.size) (hoa : s.oa ≠ 0) (hov : ¬ (s.stepR.2.2.1 = true ∧ s.stepR.2.2.2 = 0)) :
    Calls Tryd.prog 30 #[r.v, .bool false] w fun e w' => ∃ r' A c, e = .returned (.tuple #[RF.v r', .slice A (s.step false).2.1.length c, .bool (s.step false).2.2.1, .int .i64 (s.step false).2.2.2]) ∧ Below w.heap.size w w' ∧ RefIn w' (newX X w w') r' (s.step false).1 ∧ IntsX w' (newX X w w') (.slice A (s.step false).2.1.length c) (s.step false).2.1 := by
  have hlr : s.stepR.2.1 = [] := by
    unfold RS.stepR at hov ⊢
    split
    · rfl
    split
    · rfl
    split
    · split <;> rfl
    split
    · rfl
    · rename_i g1 g2 g3 g4
      rw [if_neg g1, if_neg g2, if_neg g3, if_neg g4] at hov
      exact absurd ⟨rfl, rfl⟩ hov
  rw [show s.step false = s.stepR from rfl, hlr]
  have hp : r.po = true := by rw [h.po]; simp [hoa]
  unfold RF.v
  go_enter Tryd.func30, Tryd.ntmps30
  go_upto_region 0 with (fail)
  go_cut [2, 4, 5, 6, 7] (fun p0 p1 p2 p3 p4 wx => ∃ x y, p0 = .pointer (some ⟨x, 0, none⟩) ∧ p1 = .pointer (some ⟨y, 0, none⟩) ∧ p2 = .slice none 0 0 ∧ p3 = .bool false ∧ p4 = .int .i64 0 ∧ Boxed 51 w wx x y r.cells)
  case first =>
    go_wp2_with fail
    go_meet
    exact ⟨_, _, rfl, rfl, rfl, rfl, rfl, boxed_new _ _ _ _ rfl⟩
  case rest =>
    obtain ⟨x, y, rfl, rfl, rfl, rfl, rfl, hB⟩ := hcut
    have k_po : wc.cell? ⟨x, 13, none⟩ = some (.bool r.po) := (hB.hx.cell 13).trans rfl
    rw [hp] at k_po
    have HC := Lib.hid (rpop_any (h.map (w' := wc) (Y := X) fun _ _ k => k.below hB.bel) hk hoa)
    have HX := Lib.hid hX
    have HB := Lib.hid hB
    have HOV := Lib.hid hov
    clear h hp hoa hX hB hk hov hlr
    go_wp2_with (refine wpList_load_row rfl 51 _ rfl x rfl 51 _ (0, 0) _ HB.out.hx Tryd.underlying51 rfl rinfo ?_)
    refine HC.out.mono ?_
    rintro e w2 ⟨r', rfl, hb2, hR2, hO2⟩
    have HP := Lib.hid (show Passed w wc w2 y r'.cells zero22 from ⟨rfl, rfl, by obtain ⟨ys, hs, hy⟩ := HB.out.hy; exact ⟨ys, hs, hy.below hb2 hy.lt⟩, by obtain ⟨ys, hs, hy⟩ := HB.out.hy; exact hy.lt, HB.out.gy, HB.out.bel.trans (hb2.mono HB.out.bel.size), hb2.size⟩)
    have HR2 := Lib.hid hR2
    have HO2 := Lib.hid hO2
    obtain ⟨ys, hys, hy1⟩ := HP.out.y1
    have HY := Lib.hid (And.intro hys hy1)
    have HW := Lib.hid HB.out.bel.size
    clear hb2 hR2 HC HB hys hy1 k_po hO2
    have hcs : s.stepR.2.2.1 = false ∨ (s.stepR.2.2.1 = true ∧ (s.stepR.2.2.2 == 0) = false) := by
      have := HOV.out
      cases h1 : s.stepR.2.2.1
      · exact .inl rfl
      · have : ¬ s.stepR.2.2.2 = 0 := fun e => this ⟨h1, e⟩
        exact .inr ⟨rfl, by simp [this]⟩
    have HE := Lib.hid (show RefIn (pass w2 y r'.cells zero22) (newX X w (pass w2 y r'.cells zero22)) r' s.stepR.1 from HR2.out.map fun _ _ k => (k.keep (HP.out.keep HX.out)).mono (HP.out.sub HW.out))
    rcases hcs with e1 | ⟨e1, hne⟩
    all_goals
      rw [e1]
      go_wp2_with (first
        | (refine wpList_load_row rfl 51 _ rfl w2.heap.size rfl 51 r'.cells (0, 0) _ HP.out.z1 Tryd.underlying51 rfl rinfo ?_)
        | (refine wpList_store_row rfl 51 _ _ rfl w2.heap.size _ rfl rfl 51 zero22 (heap_alloc_new w2 _) rinfo rfl (RF.ones _) ?_)
        | (refine wpList_store_row rfl 51 _ _ rfl y _ rfl rfl 51 ys HY.out.2 rinfo HY.out.1 (RF.ones _) ?_))
      (try simp only [Exit.inBlock, Exit.then]); refine bodyPost_ret (res_c4 rfl _ rfl HP.out.y2 Tryd.underlying51 rfl rinfo) rfl ?_
      exact ⟨r', none, 0, by rw [e1]; rfl, HP.out.bel, HE.out, IntsX.nil _ _⟩
end Go.Proofs.YtelfclcljdjohaaDoor
