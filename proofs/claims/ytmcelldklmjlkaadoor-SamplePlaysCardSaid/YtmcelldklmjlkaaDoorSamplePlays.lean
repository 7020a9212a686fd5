/- SamplePlays: what a port answers, and what is read, is what the reference says: the walk. -/
import Derived.Test.YtmcelldklmjlkaaDoorSrefR
namespace Go.Proofs.YtmcelldklmjlkaaDoor
open Go.RowKit

theorem blk_new_at {w : World} {a : Nat} (h : a = w.heap.size) (r : Array Value) (T : TypeId) : Blk (w.alloc (.cells r T)) a T r := by
  subst h
  exact heap_alloc_new w _

set_option maxRecDepth 100000 in
set_option maxHeartbeats 25600000 in
theorem samplePlays_law (a0 a1 a2 : Int) (A1 : Option Addr) (len1 cap1 bs1 off1 : Nat) (K1 N1 : Nat → Int) (V1 : Nat → Value) (L1 : Nat → List Int) (w : World)
    (hS1 : StepsIn w A1 len1 bs1 off1 K1 N1 V1 L1) (hlc1 : len1 ≤ cap1) (_ : cap1 ≤ maxLen) :
    Calls Tryd.prog 4 #[.agg #[.int .i64 a0, .int .i64 a1, .int .i64 a2], .slice A1 len1 cap1] w fun e w' => e = .returned (.bool true) ∧ Below w.heap.size w w' := by
  have HE1 := Lib.hid (fun w => early_any A1 len1 cap1 w hlc1)
  have hS1' := hS1.cut (min len1 150) (by omega)
  have hm1 : min len1 150 ≤ cap1 := by omega
  have hx1 : min len1 150 ≤ 150 := by omega
  clear hS1 hlc1
  generalize min len1 150 = e1 at *
  have HS1 := Lib.hid hS1'
  clear hS1'
  go_enter Tryd.func4, Tryd.ntmps4
  go_wp2_with fail
  refine (lives_any _).mono ?_
  rintro e w1 ⟨rfl, hB1⟩
  have hbx := below_alloc (w := w) (Nat.le_refl w.heap.size) (.cells #[.int .i64 a0, .int .i64 a1, .int .i64 a2] 40)
  have hxa : Blk w1 w.heap.size 40 #[.int .i64 a0, .int .i64 a1, .int .i64 a2] := (Blk.new w _ _).below hB1 (by simp)
  have k_0 : w1.cell? ⟨w.heap.size, 0, none⟩ = some (.int .i64 a0) := (hxa.cell 0).trans rfl
  have k_1 : w1.cell? ⟨w.heap.size, 1, none⟩ = some (.int .i64 a1) := (hxa.cell 1).trans rfl
  have HXA := Lib.hid hxa
  have HB1 := Lib.hid (hbx.trans (hB1.mono hbx.size))
  clear hB1 hbx hxa
  go_upto_region 3 with (fail)
  go_cut [5] (fun pk wx => ∃ ck, pk = .pointer (some ⟨ck, 0, none⟩) ∧ Blk wx ck 26 (chanC a0 a1) ∧ Below w.heap.size w wx ∧ Blk wx w.heap.size 40 #[.int .i64 a0, .int .i64 a1, .int .i64 a2])
  case first =>
    go_wp2_with (refine wpList_store_row rfl 26 _ _ rfl w1.heap.size (chanC a0 a1) rfl rfl 26 (chanC 0 0) (heap_alloc_new w1 _) chinfo rfl (chanC_ones _ _) ?_)
    go_meet
    exact ⟨_, rfl, setRow_heap _ _ (chanC 0 0) _ 26 (0, 0) (heap_alloc_new w1 _), below_setRow (HB1.out.alloc HB1.out.size _) HB1.out.size _, (setRow_other _ _ _ _ (by have := HXA.out.lt; omega)).trans ((HXA.out.alloc _))⟩
  case rest =>
  obtain ⟨ck, rfl, hck, hbw, hxa⟩ := hcut
  have HCK := Lib.hid hck
  have HBW := Lib.hid hbw
  have HXA := Lib.hid hxa
  clear hck hbw hxa k_0 k_1 HB1
  go_upto_region 4 with (fail)
  go_cut [6, 7] (fun pp pz wx => ∃ (pb kb b mb lb x : Nat) (Y : Nat → Prop) (f : PF) (p : SP), pp = .pointer (some ⟨pb, 0, none⟩) ∧ pz = .pointer (some ⟨x, 0, none⟩) ∧ PA w wx pb kb b mb lb x Y f p p ∧ wx.cell? ⟨w.heap.size, 2, none⟩ = some (.int .i64 a2))
  case first =>
    go_wp2_with fail
    refine wp_region_held_drew (S := fun w' => Below wc.heap.size wc w') rfl (Below.refl _ wc).drew fun hS0 => ?_
    refine wpAnyH_take (i := 0) (v := .agg (chanC a0 a1)) rfl (by kernel_rfl) (by kernel_rfl) (by kernel_rfl) (fun _ _ _ h => h) (Or.inl ⟨by kernel_rfl, fun w' hS' => yields_row 26 _ rfl ck rfl (HCK.out.below hS' HCK.out.lt) Tryd.underlying26 rfl chinfo⟩) hS0 ?_
    refine wpAnyH_take (i := 2) (v := .agg (chanC a0 a1)) rfl (by kernel_rfl) (by kernel_rfl) (by kernel_rfl) (fun _ _ _ h => h) (Or.inl ⟨by kernel_rfl, fun w' hS' => yields_row 26 _ rfl ck rfl (HCK.out.below hS' HCK.out.lt) Tryd.underlying26 rfl chinfo⟩) hS0 ?_
    refine wpAnyH_ready (rs := [1, 4]) (by kernel_rfl) (by simp) ?_
    refine AllReadyH.cons rfl (fun K hK => ?_) (AllReadyH.cons rfl (fun K hK => ?_) AllReadyH.nil)
    · go_simp
      refine (snew_z _ a0 a1 (ck) (Nat.lt_of_lt_of_le HCK.out.lt hS0.size)).mono ?_
      rintro e wn ⟨V, pb, kb, b, mb, lb, X, rfl, hbV, hC, hXz, hkb⟩
      have hbn := hbV.trans (hC.bel.mono hbV.size)
      have hWV := Lib.hid (HBW.out.trans ((hS0.trans (hbV.mono hS0.size)).mono HBW.out.size))
      have hgp := hC.gp
      have hpl := hC.c.lt pb hC.xp
      have hkl : kb < V.heap.size := World.block_lt_of_cell? _ _ hC.f
      have hVs := hbV.size
      have hVw := hC.bel.size
      have hb20 := Below.refl wn.heap.size wn
      refine hK.out _ _ (hS0.trans (hbn.mono hS0.size)) fun hS1 => ?_
      clear hK
      refine wpAnyH_ready (rs := [3, 4]) (by kernel_rfl) (by simp) ?_
      refine AllReadyH.cons rfl (fun K hK => ?_) (AllReadyH.cons rfl (fun K hK => ?_) AllReadyH.nil)
      · go_simp
        refine (pnew_any _ a0 a1).mono ?_
        rintro e wr ⟨f, rfl, hbr, hRr⟩
        unfold PF.v
        have hb80 := Below.refl wr.heap.size wr
        refine hK.out _ _ (hS1.trans (hbr.mono hS1.size)) fun hS2 => ?_
        clear hK
        refine wpAnyH_ready (rs := [4]) (by kernel_rfl) (by simp) ?_
        refine AllReadyH.cons rfl (fun K hK => ?_) AllReadyH.nil
        go_simp
        have HZ4 := Lib.hid (show Blk (wr.alloc (.cells zero22 48)) wr.heap.size 48 zero22 from heap_alloc_new wr _)
        have hb85 := hb80.trans ((below_alloc (w := wr) (Nat.le_refl wr.heap.size) (.cells zero22 48)).mono hb80.size)
        refine hK.out _ _ (hS2.trans ((below_alloc (w := wr) (Nat.le_refl wr.heap.size) (.cells zero22 48)).mono hS2.size)) fun hS3 => ?_
        clear hK
        have hsb2 := hb20.size
        have hsbr := hbr.size
        have hsb8 := hb85.size
        have hsS := hS3.size
        have hw0 := HBW.out.size
        have hszc : wc.heap.size ≤ wc.drew.heap.size := Nat.le_refl _
        have hloz := hS2.size
        have HPA := Lib.hid (pa_new2 (W := w) hWV.out hC hb20 hRr hbr hb85 HZ4.out (by omega) (by first | exact .inl ⟨hXz, by omega⟩ | exact .inr ⟨by omega, by omega⟩) (by omega) (by omega) (by omega))
        refine wpAnyH_take (i := 5) (v := .pointer (some ⟨pb, 0, none⟩)) rfl (by kernel_rfl) (by kernel_rfl) (by kernel_rfl) (fun _ _ _ h => h) (Or.inl ⟨by kernel_rfl, fun w' _ => by kernel_rfl⟩) hS3 ?_
        refine wpAnyH_ready (rs := [6]) (by kernel_rfl) (by simp) ?_
        refine AllReadyH.cons rfl (fun K hK => ?_) AllReadyH.nil
        rw [if_pos (by kernel_rfl)]
        refine wp_store_row 48 _ _ rfl (wr.heap.size) f.cells (by kernel_rfl) (by kernel_rfl) 48 _ HZ4.out pinfo rfl (PF.ones _) ?_
        have hxw := HXA.out.lt
        have HK2 := Lib.hid (show ((wr.alloc (.cells zero22 48)).setRow (wr.heap.size) f.cells).cell? ⟨w.heap.size, 2, none⟩ = some (.int .i64 a2) from (cell_setRow_other _ _ _ _ (show w.heap.size ≠ wr.heap.size by omega)).trans (((HXA.out.below hS3 hxw).cell 2).trans rfl))
        refine hK.out _ _ (below_setRow hS3 (by omega) _) fun hSe => ?_
        clear hK
        refine wpAnyH_done (by kernel_rfl) ?_ _
        go_simp
        go_wp2
        go_meet
        exact ⟨_, _, _, _, _, _, _, _, _, rfl, rfl, HPA.out, HK2.out⟩
      · go_simp
        have HZ7 := Lib.hid (show Blk (wn.alloc (.cells zero22 48)) wn.heap.size 48 zero22 from heap_alloc_new wn _)
        have hb28 := hb20.trans ((below_alloc (w := wn) (Nat.le_refl wn.heap.size) (.cells zero22 48)).mono hb20.size)
        refine hK.out _ _ (hS1.trans ((below_alloc (w := wn) (Nat.le_refl wn.heap.size) (.cells zero22 48)).mono hS1.size)) fun hS6 => ?_
        clear hK
        refine wpAnyH_ready (rs := [3]) (by kernel_rfl) (by simp) ?_
        refine AllReadyH.cons rfl (fun K hK => ?_) AllReadyH.nil
        go_simp
        refine (pnew_any _ a0 a1).mono ?_
        rintro e wr ⟨f, rfl, hbr, hRr⟩
        have hlr10 : wn.heap.size < (wn.alloc (.cells zero22 48)).heap.size := HZ7.out.lt
        have HZ11 := Lib.hid (HZ7.out.below hbr HZ7.out.lt)
        unfold PF.v
        have hb80 := Below.refl wr.heap.size wr
        refine hK.out _ _ (hS6.trans (hbr.mono hS6.size)) fun hS9 => ?_
        clear hK
        have hsb2 := hb28.size
        have hsbr := hbr.size
        have hsb8 := hb80.size
        have hsS := hS9.size
        have hw0 := HBW.out.size
        have hszc : wc.heap.size ≤ wc.drew.heap.size := Nat.le_refl _
        have hloz := hS1.size
        have HPA := Lib.hid (pa_new2 (W := w) hWV.out hC hb28 hRr hbr hb80 HZ11.out (by omega) (by first | exact .inl ⟨hXz, by omega⟩ | exact .inr ⟨by omega, by omega⟩) (by omega) (by omega) (by omega))
        refine wpAnyH_take (i := 5) (v := .pointer (some ⟨pb, 0, none⟩)) rfl (by kernel_rfl) (by kernel_rfl) (by kernel_rfl) (fun _ _ _ h => h) (Or.inl ⟨by kernel_rfl, fun w' _ => by kernel_rfl⟩) hS9 ?_
        refine wpAnyH_ready (rs := [6]) (by kernel_rfl) (by simp) ?_
        refine AllReadyH.cons rfl (fun K hK => ?_) AllReadyH.nil
        rw [if_pos (by kernel_rfl)]
        refine wp_store_row 48 _ _ rfl (wn.heap.size) f.cells (by kernel_rfl) (by kernel_rfl) 48 _ HZ11.out pinfo rfl (PF.ones _) ?_
        have hxw := HXA.out.lt
        have HK2 := Lib.hid (show (wr.setRow (wn.heap.size) f.cells).cell? ⟨w.heap.size, 2, none⟩ = some (.int .i64 a2) from (cell_setRow_other _ _ _ _ (show w.heap.size ≠ wn.heap.size by omega)).trans (((HXA.out.below hS9 hxw).cell 2).trans rfl))
        refine hK.out _ _ (below_setRow hS9 (by omega) _) fun hSe => ?_
        clear hK
        refine wpAnyH_done (by kernel_rfl) ?_ _
        go_simp
        go_wp2
        go_meet
        exact ⟨_, _, _, _, _, _, _, _, _, rfl, rfl, HPA.out, HK2.out⟩
    · go_simp
      have HZ13 := Lib.hid (show Blk (wc.drew.alloc (.cells zero22 48)) wc.drew.heap.size 48 zero22 from heap_alloc_new wc.drew _)
      refine hK.out _ _ (hS0.trans ((below_alloc (w := wc.drew) (Nat.le_refl wc.drew.heap.size) (.cells zero22 48)).mono hS0.size)) fun hS12 => ?_
      clear hK
      refine wpAnyH_ready (rs := [1]) (by kernel_rfl) (by simp) ?_
      refine AllReadyH.cons rfl (fun K hK => ?_) AllReadyH.nil
      go_simp
      refine (snew_z _ a0 a1 (wc.drew.heap.size) HZ13.out.lt).mono ?_
      rintro e wn ⟨V, pb, kb, b, mb, lb, X, rfl, hbV, hC, hXz, hkb⟩
      have hbn := hbV.trans (hC.bel.mono hbV.size)
      have hWV := Lib.hid (HBW.out.trans ((hS12.trans (hbV.mono hS12.size)).mono HBW.out.size))
      have hgp := hC.gp
      have hpl := hC.c.lt pb hC.xp
      have hkl : kb < V.heap.size := World.block_lt_of_cell? _ _ hC.f
      have hVs := hbV.size
      have hVw := hC.bel.size
      have HZ15 := Lib.hid (HZ13.out.below hbn HZ13.out.lt)
      have hlz : wc.drew.heap.size < (wc.drew.alloc (.cells zero22 48)).heap.size := HZ13.out.lt
      have hb20 := Below.refl wn.heap.size wn
      refine hK.out _ _ (hS12.trans (hbn.mono hS12.size)) fun hS14 => ?_
      clear hK
      refine wpAnyH_ready (rs := [3]) (by kernel_rfl) (by simp) ?_
      refine AllReadyH.cons rfl (fun K hK => ?_) AllReadyH.nil
      go_simp
      refine (pnew_any _ a0 a1).mono ?_
      rintro e wr ⟨f, rfl, hbr, hRr⟩
      have hlr17 : wc.drew.heap.size < wn.heap.size := HZ15.out.lt
      have HZ18 := Lib.hid (HZ15.out.below hbr HZ15.out.lt)
      unfold PF.v
      have hb80 := Below.refl wr.heap.size wr
      refine hK.out _ _ (hS14.trans (hbr.mono hS14.size)) fun hS16 => ?_
      clear hK
      have hsb2 := hb20.size
      have hsbr := hbr.size
      have hsb8 := hb80.size
      have hsS := hS16.size
      have hw0 := HBW.out.size
      have hszc : wc.heap.size ≤ wc.drew.heap.size := Nat.le_refl _
      have hloz := hS0.size
      have HPA := Lib.hid (pa_new2 (W := w) hWV.out hC hb20 hRr hbr hb80 HZ18.out (by omega) (by first | exact .inl ⟨hXz, by omega⟩ | exact .inr ⟨by omega, by omega⟩) (by omega) (by omega) (by omega))
      refine wpAnyH_take (i := 5) (v := .pointer (some ⟨pb, 0, none⟩)) rfl (by kernel_rfl) (by kernel_rfl) (by kernel_rfl) (fun _ _ _ h => h) (Or.inl ⟨by kernel_rfl, fun w' _ => by kernel_rfl⟩) hS16 ?_
      refine wpAnyH_ready (rs := [6]) (by kernel_rfl) (by simp) ?_
      refine AllReadyH.cons rfl (fun K hK => ?_) AllReadyH.nil
      rw [if_pos (by kernel_rfl)]
      refine wp_store_row 48 _ _ rfl (wc.drew.heap.size) f.cells (by kernel_rfl) (by kernel_rfl) 48 _ HZ18.out pinfo rfl (PF.ones _) ?_
      have hxw := HXA.out.lt
      have HK2 := Lib.hid (show (wr.setRow (wc.drew.heap.size) f.cells).cell? ⟨w.heap.size, 2, none⟩ = some (.int .i64 a2) from (cell_setRow_other _ _ _ _ (show w.heap.size ≠ wc.drew.heap.size by omega)).trans (((HXA.out.below hS16 hxw).cell 2).trans rfl))
      refine hK.out _ _ (below_setRow hS16 (by omega) _) fun hSe => ?_
      clear hK
      refine wpAnyH_done (by kernel_rfl) ?_ _
      go_simp
      go_wp2
      go_meet
      exact ⟨_, _, _, _, _, _, _, _, _, rfl, rfl, HPA.out, HK2.out⟩
  case rest =>
  obtain ⟨pb, kb, b, mb, lb, x, Y0, f0, p0, rfl, rfl, hP0, hx2⟩ := hcut
  have HP := Lib.hid hP0
  have k_2 : wc.cell? ⟨w.heap.size, 2, none⟩ = some (.int .i64 a2) := hx2
  clear hP0 hx2 HCK HBW HXA
  go_wp2_with fail
  refine (rcut_any a2 _).mono ?_
  rintro e w3 ⟨rfl, rfl⟩
  clear k_2
  go_wp2_with fail
  refine (HE1.out _).mono ?_
  rintro e w4 ⟨rfl, rfl⟩
  clear HE1
  go_wp2_with fail
  generalize cut a2 = now0 at *
  go_loopw [8, 9] (fun nv i wx => ∃ (k : Nat) (Y : Nat → Prop) (f : PF) (p : SP) (now : Int), k ≤ e1 ∧ nv = .int .i64 now ∧ i = .int .i64 k ∧ PA w wx pb kb b mb lb x Y f p p) (fun _ i _ => e1 - (intOf i).toNat)
  case atStart => exact ⟨0, Y0, f0, p0, now0, Nat.zero_le _, rfl, rfl, HP.out⟩
  case round =>
    clear HP
    obtain ⟨k, Y, f, p, now, hk, rfl, rfl, hP⟩ := hrel
    have HP := Lib.hid hP
    clear hP
    by_cases hlt : k < e1
    · obtain rfl : A1 = some ⟨bs1, off1, none⟩ := HS1.out.at_.resolve_right (by omega)
      obtain ⟨A', n', c', l8, hcl, hl8, hone⟩ := HS1.out.one k hlt
      have HONE := Lib.hid hone
      obtain ⟨q0, q1, q2, -⟩ := hone _ HP.out.bel
      have b1' : (k : Int) < (e1 : Int) := by omega
      have b0 : (0 : Int) ≤ (k : Int) := by omega
      have HWS := Lib.hid (fun w' => words_step (K1 k) (N1 k) A' n' c' w' hcl)
      have HKS := Lib.hid (fun w' => kind_step (K1 k) (N1 k) (.slice A' n' c') w')
      have hkd := kindOf_bd (K1 k)
      clear hone
      generalize min n' 8 = n8 at *
      generalize kindOf (K1 k) = kd at *
      go_wp2_with fail
      refine (HKS.out _).mono ?_
      rintro e w5 ⟨rfl, hb⟩
      have hz := Blk.new wr 53 #[.int .i64 (K1 k), .int .i64 (N1 k), .slice A' n' c']
      have hba : Below wr.heap.size wr (wr.alloc (.cells #[.int .i64 (K1 k), .int .i64 (N1 k), .slice A' n' c'] 53)) := below_alloc (Nat.le_refl _) _
      have HZ := Lib.hid (hz.below hb hz.lt)
      have hb5 : Below wr.heap.size wr w5 := hba.trans (hb.mono hba.size)
      have hzY : newX Y wr w5 wr.heap.size := .inr ⟨Nat.le_refl _, HZ.out.lt⟩
      have HP5 := Lib.hid (HP.out.grow hb5)
      have hxz : x < wr.heap.size := HP.out.k.lt
      have hzp : wr.heap.size ≠ pb := by have := HP.out.pbl; omega
      have hz5 : wr.heap.size < w5.heap.size := HZ.out.lt
      clear hb hz hba hb5 HP q0 q1 q2
      generalize newX Y wr w5 = Y at *
      generalize wr.heap.size = z at *
      have c0 : w5.cell? ⟨z, 0, none⟩ = some (.int .i64 (K1 k)) := (HZ.out.cell 0).trans rfl
      have c1 : w5.cell? ⟨z, 1, none⟩ = some (.int .i64 (N1 k)) := (HZ.out.cell 1).trans rfl
      have c2 : w5.cell? ⟨z, 2, none⟩ = some (.slice A' n' c') := (HZ.out.cell 2).trans rfl
      go_upto_block 2 with (fail)
      go_cut [11] (fun v wx => v = .bool true ∧ ∃ Y f p, PA w wx pb kb b mb lb x Y f p p ∧ Blk wx z 53 #[.int .i64 (K1 k), .int .i64 (N1 k), .slice A' n' c'])
      case first =>
        rcases (show kd = 0 ∨ kd = 1 ∨ (2 ≤ kd ∧ kd ≤ 6) ∨ kd = 7 by omega) with rfl | rfl | hkm | rfl
        · as_aux_lemma =>
            go_upto_region 14 with (fail)
            go_cut [12, 13] (fun q e wx => ∃ (z' : Nat) (Y6 : Nat → Prop) (f' : PF), q = .pointer (some ⟨z', 0, none⟩) ∧ e = .int .i64 (p.wr l8 now).2 ∧ PTold w5 wx pb x z' Y Y6 f' (p.wr l8 now).1 ∧ ∀ k, Y k → Y6 k)
            case first =>
              go_wp2_with fail
              refine wp_region_held_drew (S := fun w' => Below w5.heap.size w5 w') rfl (Below.refl _ w5).drew fun hS0 => ?_
              refine wpAnyH_take (i := 0) (v := .agg f.cells) rfl (by kernel_rfl) (by kernel_rfl) (by kernel_rfl) (fun _ _ _ h => h) (Or.inl ⟨by kernel_rfl, fun w' hS' => yields_row 48 _ rfl x rfl (HP5.out.k.below hS' HP5.out.k.lt) Tryd.underlying48 rfl pinfo⟩) hS0 ?_
              refine wpAnyH_take (i := 1) (v := .agg #[.int .i64 (K1 k), .int .i64 (N1 k), .slice A' n' c']) rfl (by kernel_rfl) (by kernel_rfl) (by kernel_rfl) (fun _ _ _ h => h) (Or.inl ⟨by kernel_rfl, fun w' hS' => yields_row 53 _ rfl z rfl (HZ.out.below hS' HZ.out.lt) Tryd.underlying53 rfl (by kernel_rfl)⟩) hS0 ?_
              refine wpAnyH_take (i := 3) (v := .int .i64 now) rfl (by kernel_rfl) (by kernel_rfl) (by kernel_rfl) (fun _ _ _ h => h) (Or.inl ⟨by kernel_rfl, fun w' _ => by kernel_rfl⟩) hS0 ?_
              refine wpAnyH_ready (rs := [2, 8]) (by kernel_rfl) (by simp) ?_
              refine AllReadyH.cons rfl (fun K hK => ?_) (AllReadyH.cons rfl (fun K hK => ?_) AllReadyH.nil)
              · go_simp
                refine (HWS.out _).mono ?_
                rintro e wm1 ⟨rfl, hbm2⟩
                refine hK.out _ _ (hS0.trans (hbm2.mono hS0.size)) fun hS3 => ?_
                clear hK
                refine wpAnyH_ready (rs := [4, 8]) (by kernel_rfl) (by simp) ?_
                refine AllReadyH.cons rfl (fun K hK => ?_) (AllReadyH.cons rfl (fun K hK => ?_) AllReadyH.nil)
                · go_simp
                  obtain ⟨-, -, -, hI8⟩ := HONE.out _ (HP5.out.go hS3).bel
                  refine (pwrite_any (HP5.out.go hS3).ri HP5.out.ok.1 HP5.out.ok.2 (fun k e => ((HP5.out.go hS3).yl k e).1) hI8 (by omega) now).mono ?_
                  rintro e wd5 ⟨f', rfl, hbc6, hRc⟩
                  clear hI8
                  have h37 := Below.refl wd5.heap.size wd5
                  refine hK.out _ _ (hS3.trans (hbc6.mono hS3.size)) fun hS4 => ?_
                  clear hK
                  refine wpAnyH_take (i := 5) (v := .tuple #[PF.v f', .int .i64 (p.wr l8 now).2]) rfl (by kernel_rfl) (by kernel_rfl) (by kernel_rfl) (fun _ _ _ h => h) (Or.inl ⟨by kernel_rfl, fun w' _ => by kernel_rfl⟩) hS4 ?_
                  refine wpAnyH_take (i := 6) (v := PF.v f') rfl (by kernel_rfl) (by kernel_rfl) (by kernel_rfl) (fun _ _ _ h => h) (Or.inl ⟨by kernel_rfl, fun w' _ => by kernel_rfl⟩) hS4 ?_
                  refine wpAnyH_take (i := 7) (v := .int .i64 (p.wr l8 now).2) rfl (by kernel_rfl) (by kernel_rfl) (by kernel_rfl) (fun _ _ _ h => h) (Or.inl ⟨by kernel_rfl, fun w' _ => by kernel_rfl⟩) hS4 ?_
                  refine wpAnyH_ready (rs := [8]) (by kernel_rfl) (by simp) ?_
                  refine AllReadyH.cons rfl (fun K hK => ?_) AllReadyH.nil
                  go_simp
                  have had10 := Lib.hid (show wd5.heap.size = wd5.heap.size by first | rfl | simp)
                  have HZ8 := Lib.hid (show Blk (wd5.alloc (.cells zero22 48)) (wd5.heap.size) 48 zero22 from blk_new_at had10.out _ _)
                  have h311 := h37.trans ((below_alloc (w := wd5) (Nat.le_refl wd5.heap.size) (.cells zero22 48)).mono h37.size)
                  have hhi12 := Nat.le_trans h37.size (Nat.le_of_eq had10.out.symm)
                  refine hK.out _ _ (hS4.trans ((below_alloc (w := wd5) (Nat.le_refl wd5.heap.size) (.cells zero22 48)).mono hS4.size)) fun hS9 => ?_
                  clear hK
                  have hlo13 := Nat.le_trans hS4.size (Nat.le_of_eq had10.out.symm)
                  have HT := Lib.hid (HP5.out.told hS3 hbc6 hRc h311 HZ8.out hlo13 (.inr hhi12))
                  refine wpAnyH_ready (rs := [9]) (by kernel_rfl) (by simp) ?_
                  refine AllReadyH.cons rfl (fun K hK => ?_) AllReadyH.nil
                  rw [if_pos (by kernel_rfl)]
                  refine wp_store_row 48 _ _ rfl (wd5.heap.size) f'.cells (by kernel_rfl) (by kernel_rfl) 48 _ HZ8.out pinfo rfl (PF.ones _) ?_
                  refine hK.out _ _ HT.out.bel fun hSe => ?_
                  clear hK
                  refine wpAnyH_take (i := 10) (v := .int .i64 (p.wr l8 now).2) rfl (by kernel_rfl) (by kernel_rfl) (by kernel_rfl) (fun _ _ _ h => h) (Or.inl ⟨by kernel_rfl, fun w' _ => by kernel_rfl⟩) hSe ?_
                  refine wpAnyH_done (by kernel_rfl) ?_ _
                  go_simp
                  go_wp2
                  go_meet
                  exact ⟨_, _, _, rfl, rfl, HT.out, fun _ e => .inl e⟩
                · go_simp
                  have had16 := Lib.hid (show wm1.heap.size = wm1.heap.size by first | rfl | simp)
                  have HZ14 := Lib.hid (show Blk (wm1.alloc (.cells zero22 48)) (wm1.heap.size) 48 zero22 from blk_new_at had16.out _ _)
                  refine hK.out _ _ (hS3.trans ((below_alloc (w := wm1) (Nat.le_refl wm1.heap.size) (.cells zero22 48)).mono hS3.size)) fun hS15 => ?_
                  clear hK
                  have hlo17 := Nat.le_trans hS3.size (Nat.le_of_eq had16.out.symm)
                  refine wpAnyH_ready (rs := [4]) (by kernel_rfl) (by simp) ?_
                  refine AllReadyH.cons rfl (fun K hK => ?_) AllReadyH.nil
                  have hlt18 : wm1.heap.size < (wm1.alloc (.cells zero22 48)).heap.size := HZ14.out.lt
                  go_simp
                  obtain ⟨-, -, -, hI8⟩ := HONE.out _ (HP5.out.go hS15).bel
                  refine (pwrite_any (HP5.out.go hS15).ri HP5.out.ok.1 HP5.out.ok.2 (fun k e => ((HP5.out.go hS15).yl k e).1) hI8 (by omega) now).mono ?_
                  rintro e wd20 ⟨f', rfl, hbc21, hRc⟩
                  clear hI8
                  have HZ22 := Lib.hid (HZ14.out.below hbc21 HZ14.out.lt)
                  have h323 := Below.refl wd20.heap.size wd20
                  refine hK.out _ _ (hS15.trans (hbc21.mono hS15.size)) fun hS19 => ?_
                  clear hK
                  refine wpAnyH_take (i := 5) (v := .tuple #[PF.v f', .int .i64 (p.wr l8 now).2]) rfl (by kernel_rfl) (by kernel_rfl) (by kernel_rfl) (fun _ _ _ h => h) (Or.inl ⟨by kernel_rfl, fun w' _ => by kernel_rfl⟩) hS19 ?_
                  refine wpAnyH_take (i := 7) (v := .int .i64 (p.wr l8 now).2) rfl (by kernel_rfl) (by kernel_rfl) (by kernel_rfl) (fun _ _ _ h => h) (Or.inl ⟨by kernel_rfl, fun w' _ => by kernel_rfl⟩) hS19 ?_
                  refine wpAnyH_ready (rs := [6]) (by kernel_rfl) (by simp) ?_
                  refine AllReadyH.cons rfl (fun K hK => ?_) AllReadyH.nil
                  go_simp
                  refine hK.out _ _ hS19 fun hS24 => ?_
                  clear hK
                  have HT := Lib.hid (HP5.out.told hS15 hbc21 hRc h323 HZ22.out hlo17 (.inl hlt18))
                  refine wpAnyH_ready (rs := [9]) (by kernel_rfl) (by simp) ?_
                  refine AllReadyH.cons rfl (fun K hK => ?_) AllReadyH.nil
                  rw [if_pos (by kernel_rfl)]
                  refine wp_store_row 48 _ _ rfl (wm1.heap.size) f'.cells (by kernel_rfl) (by kernel_rfl) 48 _ HZ22.out pinfo rfl (PF.ones _) ?_
                  refine hK.out _ _ HT.out.bel fun hSe => ?_
                  clear hK
                  refine wpAnyH_take (i := 10) (v := .int .i64 (p.wr l8 now).2) rfl (by kernel_rfl) (by kernel_rfl) (by kernel_rfl) (fun _ _ _ h => h) (Or.inl ⟨by kernel_rfl, fun w' _ => by kernel_rfl⟩) hSe ?_
                  refine wpAnyH_done (by kernel_rfl) ?_ _
                  go_simp
                  go_wp2
                  go_meet
                  exact ⟨_, _, _, rfl, rfl, HT.out, fun _ e => .inl e⟩
              · go_simp
                have had27 := Lib.hid (show w5.heap.size = w5.drew.heap.size by first | rfl | simp)
                have HZ25 := Lib.hid (show Blk (w5.drew.alloc (.cells zero22 48)) (w5.heap.size) 48 zero22 from blk_new_at had27.out _ _)
                refine hK.out _ _ (hS0.trans ((below_alloc (w := w5.drew) (Nat.le_refl w5.drew.heap.size) (.cells zero22 48)).mono hS0.size)) fun hS26 => ?_
                clear hK
                have hlo28 := Nat.le_trans hS0.size (Nat.le_of_eq had27.out.symm)
                refine wpAnyH_ready (rs := [2]) (by kernel_rfl) (by simp) ?_
                refine AllReadyH.cons rfl (fun K hK => ?_) AllReadyH.nil
                go_simp
                refine (HWS.out _).mono ?_
                rintro e wm29 ⟨rfl, hbm30⟩
                have HZ32 := Lib.hid (HZ25.out.below hbm30 HZ25.out.lt)
                refine hK.out _ _ (hS26.trans (hbm30.mono hS26.size)) fun hS31 => ?_
                clear hK
                refine wpAnyH_ready (rs := [4]) (by kernel_rfl) (by simp) ?_
                refine AllReadyH.cons rfl (fun K hK => ?_) AllReadyH.nil
                have hlt33 : w5.heap.size < wm29.heap.size := HZ32.out.lt
                go_simp
                obtain ⟨-, -, -, hI8⟩ := HONE.out _ (HP5.out.go hS31).bel
                refine (pwrite_any (HP5.out.go hS31).ri HP5.out.ok.1 HP5.out.ok.2 (fun k e => ((HP5.out.go hS31).yl k e).1) hI8 (by omega) now).mono ?_
                rintro e wd35 ⟨f', rfl, hbc36, hRc⟩
                clear hI8
                have HZ37 := Lib.hid (HZ32.out.below hbc36 HZ32.out.lt)
                have h338 := Below.refl wd35.heap.size wd35
                refine hK.out _ _ (hS31.trans (hbc36.mono hS31.size)) fun hS34 => ?_
                clear hK
                refine wpAnyH_take (i := 5) (v := .tuple #[PF.v f', .int .i64 (p.wr l8 now).2]) rfl (by kernel_rfl) (by kernel_rfl) (by kernel_rfl) (fun _ _ _ h => h) (Or.inl ⟨by kernel_rfl, fun w' _ => by kernel_rfl⟩) hS34 ?_
                refine wpAnyH_take (i := 7) (v := .int .i64 (p.wr l8 now).2) rfl (by kernel_rfl) (by kernel_rfl) (by kernel_rfl) (fun _ _ _ h => h) (Or.inl ⟨by kernel_rfl, fun w' _ => by kernel_rfl⟩) hS34 ?_
                refine wpAnyH_ready (rs := [6]) (by kernel_rfl) (by simp) ?_
                refine AllReadyH.cons rfl (fun K hK => ?_) AllReadyH.nil
                go_simp
                refine hK.out _ _ hS34 fun hS39 => ?_
                clear hK
                have HT := Lib.hid (HP5.out.told hS31 hbc36 hRc h338 HZ37.out hlo28 (.inl hlt33))
                refine wpAnyH_ready (rs := [9]) (by kernel_rfl) (by simp) ?_
                refine AllReadyH.cons rfl (fun K hK => ?_) AllReadyH.nil
                rw [if_pos (by kernel_rfl)]
                refine wp_store_row 48 _ _ rfl (w5.heap.size) f'.cells (by kernel_rfl) (by kernel_rfl) 48 _ HZ37.out pinfo rfl (PF.ones _) ?_
                refine hK.out _ _ HT.out.bel fun hSe => ?_
                clear hK
                refine wpAnyH_take (i := 10) (v := .int .i64 (p.wr l8 now).2) rfl (by kernel_rfl) (by kernel_rfl) (by kernel_rfl) (fun _ _ _ h => h) (Or.inl ⟨by kernel_rfl, fun w' _ => by kernel_rfl⟩) hSe ?_
                refine wpAnyH_done (by kernel_rfl) ?_ _
                go_simp
                go_wp2
                go_meet
                exact ⟨_, _, _, rfl, rfl, HT.out, fun _ e => .inl e⟩
            case rest =>
              obtain ⟨z', Y6, f', rfl, rfl, hT, hYY⟩ := hcut
              have hZ6 : Blk (wc.setRow x f'.cells) z 53 #[.int .i64 (K1 k), .int .i64 (N1 k), .slice A' n' c'] :=
                (HZ.out.below hT.bel HZ.out.lt).of (setRow_other _ _ _ _ (Ne.symm (Nat.ne_of_lt hxz)))
              have d0 : (wc.setRow x f'.cells).cell? ⟨z, 0, none⟩ = some (.int .i64 (K1 k)) := (hZ6.cell 0).trans rfl
              have d1 : (wc.setRow x f'.cells).cell? ⟨z, 1, none⟩ = some (.int .i64 (N1 k)) := (hZ6.cell 1).trans rfl
              have d2 : (wc.setRow x f'.cells).cell? ⟨z, 2, none⟩ = some (.slice A' n' c') := (hZ6.cell 2).trans rfl
              have HZ6 := Lib.hid hZ6
              have HT := Lib.hid hT
              have HKX := Lib.hid (HP5.out.k.below hT.bel HP5.out.k.lt)
              have HP6 := Lib.hid (hT.pat HP5.out)
              have hzY6 := hYY z hzY
              clear hT hZ6 hYY c0 c1 c2 HP5
              go_wp2_with (first
                | (refine wpList_load_row rfl 48 _ rfl z' rfl 48 _ (0, 0) _ HT.out.z Tryd.underlying48 rfl pinfo ?_)
                | (refine wpList_store_row rfl 48 _ _ rfl x _ rfl rfl 48 f.cells HKX.out pinfo rfl (PF.ones _) ?_))
              refine (HWS.out _).mono ?_
              rintro e w7 ⟨rfl, hb7⟩
              have HP7 := Lib.hid (HP6.out.go hb7)
              have HZ7 := Lib.hid (HZ6.out.below hb7 HZ6.out.lt)
              obtain ⟨-, -, -, hI8⟩ := HONE.out w7 HP7.out.bel
              obtain ⟨V, hV, hC⟩ := HP7.out.c
              have HV := Lib.hid hV
              have HO := Lib.hid (sctx_write hC hI8 (by omega) now)
              clear hb7 hI8 HP6 HT HKX d0 d1 d2 HWS HKS hV hC HZ6
              go_wp2_with fail
              refine HO.out.mono ?_
              rintro e w8 ⟨rfl, hC8, hK8⟩
              have HP8 := Lib.hid (HP7.out.ring HV.out hC8 hK8)
              have HZ8 := Lib.hid (HZ7.out.of (hK8 z (.inr (.inr hzY6)) hzp))
              clear hC8 hK8 HO HP7 HZ7
              go_wp2_with fail
              go_meet
              exact ⟨by simp, _, _, _, HP8.out, HZ8.out⟩
        · as_aux_lemma =>
            go_wp2_with (refine wpList_load_row rfl 48 _ rfl x rfl 48 _ (0, 0) _ HP5.out.k Tryd.underlying48 rfl pinfo ?_)
            refine (pread_any HP5.out.ri (fun k e => (HP5.out.yl k e).1)).mono ?_
            rintro e w6 ⟨f', rfl, hb6, hR6⟩
            have hT := HP5.out.told (Below.refl _ w5) hb6 hR6 (below_alloc (Nat.le_refl w6.heap.size) (.cells zero22 48)) (heap_alloc_new w6 (.cells zero22 48)) hb6.size (.inr (Nat.le_refl _))
            have HT := Lib.hid hT
            have HKX := Lib.hid (HP5.out.k.below hT.bel HP5.out.k.lt)
            have HP6 := Lib.hid (hT.pat HP5.out)
            have hZ6 : Blk (((w6.alloc (.cells zero22 48)).setRow w6.heap.size f'.cells).setRow x f'.cells) z 53 #[.int .i64 (K1 k), .int .i64 (N1 k), .slice A' n' c'] := (HZ.out.below hT.bel HZ.out.lt).of (setRow_other _ _ _ _ (Ne.symm (Nat.ne_of_lt hxz)))
            have HZ6 := Lib.hid hZ6
            have d1 : (((w6.alloc (.cells zero22 48)).setRow w6.heap.size f'.cells).setRow x f'.cells).cell? ⟨z, 1, none⟩ = some (.int .i64 (N1 k)) := (hZ6.cell 1).trans rfl
            simp only [zero22] at d1
            clear hT hb6 hR6 hZ6
            go_wp2_with (first
              | (refine wpList_load_row rfl 48 _ rfl w6.heap.size rfl 48 _ (0, 0) _ HT.out.z Tryd.underlying48 rfl pinfo ?_)
              | (refine wpList_store_row rfl 48 _ _ rfl w6.heap.size _ rfl rfl 48 zero22 (heap_alloc_new w6 _) pinfo rfl (PF.ones _) ?_)
              | (refine wpList_store_row rfl 48 _ _ rfl x _ rfl rfl 48 f.cells HKX.out pinfo rfl (PF.ones _) ?_))
            obtain ⟨V, hV, hC⟩ := HP6.out.c
            have HV := Lib.hid hV
            have HO := Lib.hid (sctx_read hC)
            clear hV hC
            refine HO.out.mono ?_
            rintro e w7 ⟨rfl, hC7, hK7⟩
            have HP7 := Lib.hid (HP6.out.ring HV.out hC7 hK7)
            have HZ7 := Lib.hid (HZ6.out.of (hK7 z (.inr (.inr (.inl hzY))) hzp))
            clear hC7 hK7 HO HP6 HT HKX HP5 HZ6 d1
            go_wp2_with fail
            go_meet
            exact ⟨by simp, _, _, _, HP7.out, HZ7.out⟩
        · as_aux_lemma =>
            have kb0 : (kd == (0 : Int)) = false := by simp; omega
            have kb1 : (kd == (1 : Int)) = false := by simp; omega
            go_upto_if 83 with (fail)
            go_cut [83] (fun v wx => v = .bool true ∧ w5 = wx)
            case first =>
              clear kb0 kb1
              have hk5 : kd = 2 ∨ kd = 3 ∨ kd = 4 ∨ kd = 5 ∨ kd = 6 := by omega
              clear hkm hkd HKS
              rcases hk5 with rfl | rfl | rfl | rfl | rfl
              all_goals
                go_wp2_with fail
                go_meet
                exact ⟨rfl, rfl⟩
            case rest =>
              obtain ⟨rfl, hw5⟩ := hcut
              subst hw5
              clear kb0 kb1
              obtain ⟨bb, hbb⟩ : ∃ bb, bb = decide (kd < (5 : Int)) := ⟨_, rfl⟩
              obtain ⟨vv, hvv⟩ : ∃ vv, vv = p.val bb now := ⟨_, rfl⟩
              obtain ⟨dd, hdd⟩ : ∃ dd, dd = (p.s.step bb).2.2.1 := ⟨_, rfl⟩
              obtain ⟨er, her⟩ : ∃ er, er = (p.s.step bb).2.2.2 := ⟨_, rfl⟩
              have HRS := Lib.hid (show ∀ (wb : World) {Y : Nat → Prop}, PRefIn wb Y f p → (∀ k, Y k → k < wb.heap.size) → Calls Tryd.prog 22 #[f.v, .bool bb, .int .i64 now] wb fun e w' => ∃ f' u, e = .returned (.tuple #[PF.v f', .agg (valC u vv), .bool dd, .int .i64 er]) ∧ Below wb.heap.size wb w' ∧ PRefIn w' (newX Y wb w') f' (p.stp bb) ∧ WordsAt wb.heap.size w' u vv from fun wb Y h hy => by
                rw [hvv, hdd, her]; exact pstep_any h HP5.out.ok.1 HP5.out.ok.2 hy bb now)
              have HLK := Lib.hid (show vv.l.length ≤ 65536 by rw [hvv]; exact val_len HP5.out.ok.2 bb now)
              have HQ := Lib.hid (And.intro hvv (And.intro hdd her))
              have HBB := Lib.hid hbb
              clear hvv hdd her hbb
              go_upto_region 26 with (fail)
              go_cut [16, 17, 18, 19] (fun q v d e wx => ∃ (z' zv : Nat) (Y6 : Nat → Prop) (f' : PF) (U : Option Addr) (cu : Nat), q = .pointer (some ⟨z', 0, none⟩) ∧ v = .pointer (some ⟨zv, 0, none⟩) ∧ d = .bool dd ∧ e = .int .i64 er ∧ PTold w5 wx pb x z' Y Y6 f' (p.stp bb) ∧ Blk wx zv 59 (valC (Value.slice U vv.l.length cu) vv) ∧ IntsIn wx (Value.slice U vv.l.length cu) vv.l ∧ w5.heap.size ≤ zv ∧ (∀ g, (Value.slice U vv.l.length cu).ownBlock = some g → w5.heap.size ≤ g ∧ g < wx.heap.size) ∧ ∀ k, Y k → Y6 k)
              case first =>
                go_wp2_with fail
                refine wp_region_held_drew (S := fun w' => Below w5.heap.size w5 w') rfl (Below.refl _ w5).drew fun hS0 => ?_
                refine wpAnyH_take (i := 0) (v := .agg f.cells) rfl (by kernel_rfl) (by kernel_rfl) (by kernel_rfl) (fun _ _ _ h => h) (Or.inl ⟨by kernel_rfl, fun w' hS' => yields_row 48 _ rfl x rfl (HP5.out.k.below hS' HP5.out.k.lt) Tryd.underlying48 rfl pinfo⟩) hS0 ?_
                refine wpAnyH_take (i := 1) (v := .agg #[.int .i64 (K1 k), .int .i64 (N1 k), .slice A' n' c']) rfl (by kernel_rfl) (by kernel_rfl) (by kernel_rfl) (fun _ _ _ h => h) (Or.inl ⟨by kernel_rfl, fun w' hS' => yields_row 53 _ rfl z rfl (HZ.out.below hS' HZ.out.lt) Tryd.underlying53 rfl (by kernel_rfl)⟩) hS0 ?_
                refine wpAnyH_take (i := 4) (v := .int .i64 now) rfl (by kernel_rfl) (by kernel_rfl) (by kernel_rfl) (fun _ _ _ h => h) (Or.inl ⟨by kernel_rfl, fun w' _ => by kernel_rfl⟩) hS0 ?_
                refine wpAnyH_ready (rs := [2, 11, 12]) (by kernel_rfl) (by simp) ?_
                refine AllReadyH.cons rfl (fun K hK => ?_) (AllReadyH.cons rfl (fun K hK => ?_) (AllReadyH.cons rfl (fun K hK => ?_) AllReadyH.nil))
                · go_simp
                  refine (HKS.out _).mono ?_
                  rintro e wm1 ⟨rfl, hbm2⟩
                  refine hK.out _ _ (hS0.trans (hbm2.mono hS0.size)) fun hS3 => ?_
                  clear hK
                  refine wpAnyH_take (i := 3) (v := .bool bb) rfl (by kernel_rfl) (by kernel_rfl) (by kernel_rfl) (fun _ _ _ h => h) (Or.inl ⟨by kernel_rfl, fun w' _ => by rw [HBB.out]; go_simp⟩) hS3 ?_
                  refine wpAnyH_ready (rs := [5, 11, 12]) (by kernel_rfl) (by simp) ?_
                  refine AllReadyH.cons rfl (fun K hK => ?_) (AllReadyH.cons rfl (fun K hK => ?_) (AllReadyH.cons rfl (fun K hK => ?_) AllReadyH.nil))
                  · go_simp
                    refine (HRS.out _ (HP5.out.go hS3).ri (fun k e => ((HP5.out.go hS3).yl k e).1)).mono ?_
                    rintro e wd5 ⟨f', u, rfl, hbc6, hRc, hUc⟩
                    obtain ⟨U, cu, rfl⟩ := hUc.1.form
                    have h37 := Below.refl wd5.heap.size wd5
                    refine hK.out _ _ (hS3.trans (hbc6.mono hS3.size)) fun hS4 => ?_
                    clear hK
                    refine wpAnyH_take (i := 6) (v := .tuple #[PF.v f', .agg (valC (Value.slice U vv.l.length cu) vv), .bool dd, .int .i64 er]) rfl (by kernel_rfl) (by kernel_rfl) (by kernel_rfl) (fun _ _ _ h => h) (Or.inl ⟨by kernel_rfl, fun w' _ => by kernel_rfl⟩) hS4 ?_
                    refine wpAnyH_take (i := 7) (v := PF.v f') rfl (by kernel_rfl) (by kernel_rfl) (by kernel_rfl) (fun _ _ _ h => h) (Or.inl ⟨by kernel_rfl, fun w' _ => by kernel_rfl⟩) hS4 ?_
                    refine wpAnyH_take (i := 8) (v := .agg (valC (Value.slice U vv.l.length cu) vv)) rfl (by kernel_rfl) (by kernel_rfl) (by kernel_rfl) (fun _ _ _ h => h) (Or.inl ⟨by kernel_rfl, fun w' _ => by kernel_rfl⟩) hS4 ?_
                    refine wpAnyH_take (i := 9) (v := .bool dd) rfl (by kernel_rfl) (by kernel_rfl) (by kernel_rfl) (fun _ _ _ h => h) (Or.inl ⟨by kernel_rfl, fun w' _ => by kernel_rfl⟩) hS4 ?_
                    refine wpAnyH_take (i := 10) (v := .int .i64 er) rfl (by kernel_rfl) (by kernel_rfl) (by kernel_rfl) (fun _ _ _ h => h) (Or.inl ⟨by kernel_rfl, fun w' _ => by kernel_rfl⟩) hS4 ?_
                    refine wpAnyH_ready (rs := [11, 12]) (by kernel_rfl) (by simp) ?_
                    refine AllReadyH.cons rfl (fun K hK => ?_) (AllReadyH.cons rfl (fun K hK => ?_) AllReadyH.nil)
                    · go_simp
                      have had10 := Lib.hid (show wd5.heap.size = wd5.heap.size by first | rfl | simp)
                      have HZ8 := Lib.hid (show Blk (wd5.alloc (.cells zero22 48)) (wd5.heap.size) 48 zero22 from blk_new_at had10.out _ _)
                      have h311 := h37.trans ((below_alloc (w := wd5) (Nat.le_refl wd5.heap.size) (.cells zero22 48)).mono h37.size)
                      have hhi12 := Nat.le_trans h37.size (Nat.le_of_eq had10.out.symm)
                      refine hK.out _ _ (hS4.trans ((below_alloc (w := wd5) (Nat.le_refl wd5.heap.size) (.cells zero22 48)).mono hS4.size)) fun hS9 => ?_
                      clear hK
                      have hlo13 := Nat.le_trans hS4.size (Nat.le_of_eq had10.out.symm)
                      refine wpAnyH_ready (rs := [12]) (by kernel_rfl) (by simp) ?_
                      refine AllReadyH.cons rfl (fun K hK => ?_) AllReadyH.nil
                      go_simp
                      have had16 := Lib.hid (show wd5.heap.size + 1 = (wd5.alloc (.cells zero22 48)).heap.size by first | rfl | simp)
                      have HZ14 := Lib.hid (show Blk ((wd5.alloc (.cells zero22 48)).alloc (.cells (valC (.slice none 0 0) SV.none) 59)) (wd5.heap.size + 1) 59 (valC (.slice none 0 0) SV.none) from blk_new_at had16.out _ _)
                      have hlt17 : wd5.heap.size < (wd5.alloc (.cells zero22 48)).heap.size := HZ8.out.lt
                      have hne18 : wd5.heap.size ≠ wd5.heap.size + 1 := by
                        have := had16.out
                        omega
                      have HZ19 := Lib.hid (HZ8.out.below (below_alloc (w := (wd5.alloc (.cells zero22 48))) (Nat.le_refl (wd5.alloc (.cells zero22 48)).heap.size) (.cells (valC (.slice none 0 0) SV.none) 59)) HZ8.out.lt)
                      have h320 := h311.trans ((below_alloc (w := (wd5.alloc (.cells zero22 48))) (Nat.le_refl (wd5.alloc (.cells zero22 48)).heap.size) (.cells (valC (.slice none 0 0) SV.none) 59)).mono h311.size)
                      have hhi21 := Nat.le_trans h311.size (Nat.le_of_eq had16.out.symm)
                      refine hK.out _ _ (hS9.trans ((below_alloc (w := (wd5.alloc (.cells zero22 48))) (Nat.le_refl (wd5.alloc (.cells zero22 48)).heap.size) (.cells (valC (.slice none 0 0) SV.none) 59)).mono hS9.size)) fun hS15 => ?_
                      clear hK
                      have hlo22 := Nat.le_trans hS9.size (Nat.le_of_eq had16.out.symm)
                      have hne : wd5.heap.size ≠ wd5.heap.size + 1 := hne18
                      have HT := Lib.hid (HP5.out.told2 (valC (Value.slice U vv.l.length cu) vv) hS3 hbc6 hRc hUc h320 HZ19.out HZ14.out hlo13 (.inr hhi12) hlo22 (.inr hhi21) hne)
                      have HUG := Lib.hid (show ∀ g, (Value.slice U vv.l.length cu).ownBlock = some g → w5.heap.size ≤ g ∧ g < ((wd5.alloc (.cells zero22 48)).alloc (.cells (valC (.slice none 0 0) SV.none) 59)).heap.size from fun g hg => ⟨Nat.le_trans hS3.size (hUc.2 g hg).1, Nat.lt_of_lt_of_le (hUc.2 g hg).2 h320.size⟩)
                      refine wpAnyH_ready (rs := [13]) (by kernel_rfl) (by simp) ?_
                      refine AllReadyH.cons rfl (fun K hK => ?_) AllReadyH.nil
                      rw [if_pos (by kernel_rfl)]
                      refine wp_store_row 48 _ _ rfl (wd5.heap.size) f'.cells (by kernel_rfl) (by kernel_rfl) 48 _ HZ19.out pinfo rfl (PF.ones _) ?_
                      have HV2 := Lib.hid (show Blk (((wd5.alloc (.cells zero22 48)).alloc (.cells (valC (.slice none 0 0) SV.none) 59)).setRow (wd5.heap.size) f'.cells) (wd5.heap.size + 1) 59 (valC (.slice none 0 0) SV.none) from (setRow_other _ _ _ _ (Ne.symm hne)).trans HZ14.out)
                      refine hK.out _ _ (below_setRow hS15 hlo13 _) fun hSe => ?_
                      clear hK
                      refine wpAnyH_ready (rs := [14]) (by kernel_rfl) (by simp) ?_
                      refine AllReadyH.cons rfl (fun K hK => ?_) AllReadyH.nil
                      rw [if_pos (by kernel_rfl)]
                      refine wp_store_row 59 _ _ rfl (wd5.heap.size + 1) (valC (Value.slice U vv.l.length cu) vv) (by kernel_rfl) (by kernel_rfl) 59 _ HV2.out v9info rfl (valC_ones _ _ _ _) ?_
                      refine hK.out _ _ HT.out.1.bel fun hSg => ?_
                      clear hK
                      refine wpAnyH_take (i := 15) (v := .bool dd) rfl (by kernel_rfl) (by kernel_rfl) (by kernel_rfl) (fun _ _ _ h => h) (Or.inl ⟨by kernel_rfl, fun w' _ => by kernel_rfl⟩) hSg ?_
                      refine wpAnyH_take (i := 16) (v := .int .i64 er) rfl (by kernel_rfl) (by kernel_rfl) (by kernel_rfl) (fun _ _ _ h => h) (Or.inl ⟨by kernel_rfl, fun w' _ => by kernel_rfl⟩) hSg ?_
                      refine wpAnyH_done (by kernel_rfl) ?_ _
                      go_simp
                      go_wp2
                      go_meet
                      obtain ⟨t1, t2, t3⟩ := HT.out
                      exact ⟨_, _, _, _, _, _, rfl, rfl, rfl, rfl, t1, t2, t3, hlo22, fun g hg => ⟨(HUG.out g hg).1, by simpa using (HUG.out g hg).2⟩, fun _ e => .inl e⟩
                    · go_simp
                      have had25 := Lib.hid (show wd5.heap.size = wd5.heap.size by first | rfl | simp)
                      have HZ23 := Lib.hid (show Blk (wd5.alloc (.cells (valC (.slice none 0 0) SV.none) 59)) (wd5.heap.size) 59 (valC (.slice none 0 0) SV.none) from blk_new_at had25.out _ _)
                      have h326 := h37.trans ((below_alloc (w := wd5) (Nat.le_refl wd5.heap.size) (.cells (valC (.slice none 0 0) SV.none) 59)).mono h37.size)
                      have hhi27 := Nat.le_trans h37.size (Nat.le_of_eq had25.out.symm)
                      refine hK.out _ _ (hS4.trans ((below_alloc (w := wd5) (Nat.le_refl wd5.heap.size) (.cells (valC (.slice none 0 0) SV.none) 59)).mono hS4.size)) fun hS24 => ?_
                      clear hK
                      have hlo28 := Nat.le_trans hS4.size (Nat.le_of_eq had25.out.symm)
                      refine wpAnyH_ready (rs := [11]) (by kernel_rfl) (by simp) ?_
                      refine AllReadyH.cons rfl (fun K hK => ?_) AllReadyH.nil
                      go_simp
                      have had31 := Lib.hid (show wd5.heap.size + 1 = (wd5.alloc (.cells (valC (.slice none 0 0) SV.none) 59)).heap.size by first | rfl | simp)
                      have HZ29 := Lib.hid (show Blk ((wd5.alloc (.cells (valC (.slice none 0 0) SV.none) 59)).alloc (.cells zero22 48)) (wd5.heap.size + 1) 48 zero22 from blk_new_at had31.out _ _)
                      have hlt32 : wd5.heap.size < (wd5.alloc (.cells (valC (.slice none 0 0) SV.none) 59)).heap.size := HZ23.out.lt
                      have hne33 : wd5.heap.size ≠ wd5.heap.size + 1 := by
                        have := had31.out
                        omega
                      have HZ34 := Lib.hid (HZ23.out.below (below_alloc (w := (wd5.alloc (.cells (valC (.slice none 0 0) SV.none) 59))) (Nat.le_refl (wd5.alloc (.cells (valC (.slice none 0 0) SV.none) 59)).heap.size) (.cells zero22 48)) HZ23.out.lt)
                      have h335 := h326.trans ((below_alloc (w := (wd5.alloc (.cells (valC (.slice none 0 0) SV.none) 59))) (Nat.le_refl (wd5.alloc (.cells (valC (.slice none 0 0) SV.none) 59)).heap.size) (.cells zero22 48)).mono h326.size)
                      have hhi36 := Nat.le_trans h326.size (Nat.le_of_eq had31.out.symm)
                      refine hK.out _ _ (hS24.trans ((below_alloc (w := (wd5.alloc (.cells (valC (.slice none 0 0) SV.none) 59))) (Nat.le_refl (wd5.alloc (.cells (valC (.slice none 0 0) SV.none) 59)).heap.size) (.cells zero22 48)).mono hS24.size)) fun hS30 => ?_
                      clear hK
                      have hlo37 := Nat.le_trans hS24.size (Nat.le_of_eq had31.out.symm)
                      have hne : wd5.heap.size + 1 ≠ wd5.heap.size := (Ne.symm hne33)
                      have HT := Lib.hid (HP5.out.told2 (valC (Value.slice U vv.l.length cu) vv) hS3 hbc6 hRc hUc h335 HZ29.out HZ34.out hlo37 (.inr hhi36) hlo28 (.inr hhi27) hne)
                      have HUG := Lib.hid (show ∀ g, (Value.slice U vv.l.length cu).ownBlock = some g → w5.heap.size ≤ g ∧ g < ((wd5.alloc (.cells (valC (.slice none 0 0) SV.none) 59)).alloc (.cells zero22 48)).heap.size from fun g hg => ⟨Nat.le_trans hS3.size (hUc.2 g hg).1, Nat.lt_of_lt_of_le (hUc.2 g hg).2 h335.size⟩)
                      refine wpAnyH_ready (rs := [13]) (by kernel_rfl) (by simp) ?_
                      refine AllReadyH.cons rfl (fun K hK => ?_) AllReadyH.nil
                      rw [if_pos (by kernel_rfl)]
                      refine wp_store_row 48 _ _ rfl (wd5.heap.size + 1) f'.cells (by kernel_rfl) (by kernel_rfl) 48 _ HZ29.out pinfo rfl (PF.ones _) ?_
                      have HV2 := Lib.hid (show Blk (((wd5.alloc (.cells (valC (.slice none 0 0) SV.none) 59)).alloc (.cells zero22 48)).setRow (wd5.heap.size + 1) f'.cells) (wd5.heap.size) 59 (valC (.slice none 0 0) SV.none) from (setRow_other _ _ _ _ (Ne.symm hne)).trans HZ34.out)
                      refine hK.out _ _ (below_setRow hS30 hlo37 _) fun hSe => ?_
                      clear hK
                      refine wpAnyH_ready (rs := [14]) (by kernel_rfl) (by simp) ?_
                      refine AllReadyH.cons rfl (fun K hK => ?_) AllReadyH.nil
                      rw [if_pos (by kernel_rfl)]
                      refine wp_store_row 59 _ _ rfl (wd5.heap.size) (valC (Value.slice U vv.l.length cu) vv) (by kernel_rfl) (by kernel_rfl) 59 _ HV2.out v9info rfl (valC_ones _ _ _ _) ?_
                      refine hK.out _ _ HT.out.1.bel fun hSg => ?_
                      clear hK
                      refine wpAnyH_take (i := 15) (v := .bool dd) rfl (by kernel_rfl) (by kernel_rfl) (by kernel_rfl) (fun _ _ _ h => h) (Or.inl ⟨by kernel_rfl, fun w' _ => by kernel_rfl⟩) hSg ?_
                      refine wpAnyH_take (i := 16) (v := .int .i64 er) rfl (by kernel_rfl) (by kernel_rfl) (by kernel_rfl) (fun _ _ _ h => h) (Or.inl ⟨by kernel_rfl, fun w' _ => by kernel_rfl⟩) hSg ?_
                      refine wpAnyH_done (by kernel_rfl) ?_ _
                      go_simp
                      go_wp2
                      go_meet
                      obtain ⟨t1, t2, t3⟩ := HT.out
                      exact ⟨_, _, _, _, _, _, rfl, rfl, rfl, rfl, t1, t2, t3, hlo28, fun g hg => ⟨(HUG.out g hg).1, by simpa using (HUG.out g hg).2⟩, fun _ e => .inl e⟩
                  · go_simp
                    have had40 := Lib.hid (show wm1.heap.size = wm1.heap.size by first | rfl | simp)
                    have HZ38 := Lib.hid (show Blk (wm1.alloc (.cells zero22 48)) (wm1.heap.size) 48 zero22 from blk_new_at had40.out _ _)
                    refine hK.out _ _ (hS3.trans ((below_alloc (w := wm1) (Nat.le_refl wm1.heap.size) (.cells zero22 48)).mono hS3.size)) fun hS39 => ?_
                    clear hK
                    have hlo41 := Nat.le_trans hS3.size (Nat.le_of_eq had40.out.symm)
                    refine wpAnyH_ready (rs := [5, 12]) (by kernel_rfl) (by simp) ?_
                    refine AllReadyH.cons rfl (fun K hK => ?_) (AllReadyH.cons rfl (fun K hK => ?_) AllReadyH.nil)
                    · have hlt42 : wm1.heap.size < (wm1.alloc (.cells zero22 48)).heap.size := HZ38.out.lt
                      go_simp
                      refine (HRS.out _ (HP5.out.go hS39).ri (fun k e => ((HP5.out.go hS39).yl k e).1)).mono ?_
                      rintro e wd44 ⟨f', u, rfl, hbc45, hRc, hUc⟩
                      obtain ⟨U, cu, rfl⟩ := hUc.1.form
                      have HZ46 := Lib.hid (HZ38.out.below hbc45 HZ38.out.lt)
                      have h347 := Below.refl wd44.heap.size wd44
                      refine hK.out _ _ (hS39.trans (hbc45.mono hS39.size)) fun hS43 => ?_
                      clear hK
                      refine wpAnyH_take (i := 6) (v := .tuple #[PF.v f', .agg (valC (Value.slice U vv.l.length cu) vv), .bool dd, .int .i64 er]) rfl (by kernel_rfl) (by kernel_rfl) (by kernel_rfl) (fun _ _ _ h => h) (Or.inl ⟨by kernel_rfl, fun w' _ => by kernel_rfl⟩) hS43 ?_
                      refine wpAnyH_take (i := 7) (v := PF.v f') rfl (by kernel_rfl) (by kernel_rfl) (by kernel_rfl) (fun _ _ _ h => h) (Or.inl ⟨by kernel_rfl, fun w' _ => by kernel_rfl⟩) hS43 ?_
                      refine wpAnyH_take (i := 8) (v := .agg (valC (Value.slice U vv.l.length cu) vv)) rfl (by kernel_rfl) (by kernel_rfl) (by kernel_rfl) (fun _ _ _ h => h) (Or.inl ⟨by kernel_rfl, fun w' _ => by kernel_rfl⟩) hS43 ?_
                      refine wpAnyH_take (i := 9) (v := .bool dd) rfl (by kernel_rfl) (by kernel_rfl) (by kernel_rfl) (fun _ _ _ h => h) (Or.inl ⟨by kernel_rfl, fun w' _ => by kernel_rfl⟩) hS43 ?_
                      refine wpAnyH_take (i := 10) (v := .int .i64 er) rfl (by kernel_rfl) (by kernel_rfl) (by kernel_rfl) (fun _ _ _ h => h) (Or.inl ⟨by kernel_rfl, fun w' _ => by kernel_rfl⟩) hS43 ?_
                      refine wpAnyH_ready (rs := [12]) (by kernel_rfl) (by simp) ?_
                      refine AllReadyH.cons rfl (fun K hK => ?_) AllReadyH.nil
                      go_simp
                      have had50 := Lib.hid (show wd44.heap.size = wd44.heap.size by first | rfl | simp)
                      have HZ48 := Lib.hid (show Blk (wd44.alloc (.cells (valC (.slice none 0 0) SV.none) 59)) (wd44.heap.size) 59 (valC (.slice none 0 0) SV.none) from blk_new_at had50.out _ _)
                      have hlt51 : wm1.heap.size < wd44.heap.size := HZ46.out.lt
                      have hne52 : wm1.heap.size ≠ wd44.heap.size := by
                        have := had50.out
                        omega
                      have HZ53 := Lib.hid (HZ46.out.below (below_alloc (w := wd44) (Nat.le_refl wd44.heap.size) (.cells (valC (.slice none 0 0) SV.none) 59)) HZ46.out.lt)
                      have h354 := h347.trans ((below_alloc (w := wd44) (Nat.le_refl wd44.heap.size) (.cells (valC (.slice none 0 0) SV.none) 59)).mono h347.size)
                      have hhi55 := Nat.le_trans h347.size (Nat.le_of_eq had50.out.symm)
                      refine hK.out _ _ (hS43.trans ((below_alloc (w := wd44) (Nat.le_refl wd44.heap.size) (.cells (valC (.slice none 0 0) SV.none) 59)).mono hS43.size)) fun hS49 => ?_
                      clear hK
                      have hlo56 := Nat.le_trans hS43.size (Nat.le_of_eq had50.out.symm)
                      have hne : wm1.heap.size ≠ wd44.heap.size := hne52
                      have HT := Lib.hid (HP5.out.told2 (valC (Value.slice U vv.l.length cu) vv) hS39 hbc45 hRc hUc h354 HZ53.out HZ48.out hlo41 (.inl hlt42) hlo56 (.inr hhi55) hne)
                      have HUG := Lib.hid (show ∀ g, (Value.slice U vv.l.length cu).ownBlock = some g → w5.heap.size ≤ g ∧ g < (wd44.alloc (.cells (valC (.slice none 0 0) SV.none) 59)).heap.size from fun g hg => ⟨Nat.le_trans hS39.size (hUc.2 g hg).1, Nat.lt_of_lt_of_le (hUc.2 g hg).2 h354.size⟩)
                      refine wpAnyH_ready (rs := [13]) (by kernel_rfl) (by simp) ?_
                      refine AllReadyH.cons rfl (fun K hK => ?_) AllReadyH.nil
                      rw [if_pos (by kernel_rfl)]
                      refine wp_store_row 48 _ _ rfl (wm1.heap.size) f'.cells (by kernel_rfl) (by kernel_rfl) 48 _ HZ53.out pinfo rfl (PF.ones _) ?_
                      have HV2 := Lib.hid (show Blk ((wd44.alloc (.cells (valC (.slice none 0 0) SV.none) 59)).setRow (wm1.heap.size) f'.cells) (wd44.heap.size) 59 (valC (.slice none 0 0) SV.none) from (setRow_other _ _ _ _ (Ne.symm hne)).trans HZ48.out)
                      refine hK.out _ _ (below_setRow hS49 hlo41 _) fun hSe => ?_
                      clear hK
                      refine wpAnyH_ready (rs := [14]) (by kernel_rfl) (by simp) ?_
                      refine AllReadyH.cons rfl (fun K hK => ?_) AllReadyH.nil
                      rw [if_pos (by kernel_rfl)]
                      refine wp_store_row 59 _ _ rfl (wd44.heap.size) (valC (Value.slice U vv.l.length cu) vv) (by kernel_rfl) (by kernel_rfl) 59 _ HV2.out v9info rfl (valC_ones _ _ _ _) ?_
                      refine hK.out _ _ HT.out.1.bel fun hSg => ?_
                      clear hK
                      refine wpAnyH_take (i := 15) (v := .bool dd) rfl (by kernel_rfl) (by kernel_rfl) (by kernel_rfl) (fun _ _ _ h => h) (Or.inl ⟨by kernel_rfl, fun w' _ => by kernel_rfl⟩) hSg ?_
                      refine wpAnyH_take (i := 16) (v := .int .i64 er) rfl (by kernel_rfl) (by kernel_rfl) (by kernel_rfl) (fun _ _ _ h => h) (Or.inl ⟨by kernel_rfl, fun w' _ => by kernel_rfl⟩) hSg ?_
                      refine wpAnyH_done (by kernel_rfl) ?_ _
                      go_simp
                      go_wp2
                      go_meet
                      obtain ⟨t1, t2, t3⟩ := HT.out
                      exact ⟨_, _, _, _, _, _, rfl, rfl, rfl, rfl, t1, t2, t3, hlo56, fun g hg => ⟨(HUG.out g hg).1, by simpa using (HUG.out g hg).2⟩, fun _ e => .inl e⟩
                    · go_simp
                      have had59 := Lib.hid (show wm1.heap.size + 1 = (wm1.alloc (.cells zero22 48)).heap.size by first | rfl | simp)
                      have HZ57 := Lib.hid (show Blk ((wm1.alloc (.cells zero22 48)).alloc (.cells (valC (.slice none 0 0) SV.none) 59)) (wm1.heap.size + 1) 59 (valC (.slice none 0 0) SV.none) from blk_new_at had59.out _ _)
                      have hlt60 : wm1.heap.size < (wm1.alloc (.cells zero22 48)).heap.size := HZ38.out.lt
                      have hne61 : wm1.heap.size ≠ wm1.heap.size + 1 := by
                        have := had59.out
                        omega
                      have HZ62 := Lib.hid (HZ38.out.below (below_alloc (w := (wm1.alloc (.cells zero22 48))) (Nat.le_refl (wm1.alloc (.cells zero22 48)).heap.size) (.cells (valC (.slice none 0 0) SV.none) 59)) HZ38.out.lt)
                      refine hK.out _ _ (hS39.trans ((below_alloc (w := (wm1.alloc (.cells zero22 48))) (Nat.le_refl (wm1.alloc (.cells zero22 48)).heap.size) (.cells (valC (.slice none 0 0) SV.none) 59)).mono hS39.size)) fun hS58 => ?_
                      clear hK
                      have hlo63 := Nat.le_trans hS39.size (Nat.le_of_eq had59.out.symm)
                      refine wpAnyH_ready (rs := [5]) (by kernel_rfl) (by simp) ?_
                      refine AllReadyH.cons rfl (fun K hK => ?_) AllReadyH.nil
                      have hlt64 : wm1.heap.size < ((wm1.alloc (.cells zero22 48)).alloc (.cells (valC (.slice none 0 0) SV.none) 59)).heap.size := HZ62.out.lt
                      have hlt65 : wm1.heap.size + 1 < ((wm1.alloc (.cells zero22 48)).alloc (.cells (valC (.slice none 0 0) SV.none) 59)).heap.size := HZ57.out.lt
                      go_simp
                      refine (HRS.out _ (HP5.out.go hS58).ri (fun k e => ((HP5.out.go hS58).yl k e).1)).mono ?_
                      rintro e wd67 ⟨f', u, rfl, hbc68, hRc, hUc⟩
                      obtain ⟨U, cu, rfl⟩ := hUc.1.form
                      have HZ69 := Lib.hid (HZ62.out.below hbc68 HZ62.out.lt)
                      have HZ70 := Lib.hid (HZ57.out.below hbc68 HZ57.out.lt)
                      have h371 := Below.refl wd67.heap.size wd67
                      refine hK.out _ _ (hS58.trans (hbc68.mono hS58.size)) fun hS66 => ?_
                      clear hK
                      refine wpAnyH_take (i := 6) (v := .tuple #[PF.v f', .agg (valC (Value.slice U vv.l.length cu) vv), .bool dd, .int .i64 er]) rfl (by kernel_rfl) (by kernel_rfl) (by kernel_rfl) (fun _ _ _ h => h) (Or.inl ⟨by kernel_rfl, fun w' _ => by kernel_rfl⟩) hS66 ?_
                      refine wpAnyH_take (i := 8) (v := .agg (valC (Value.slice U vv.l.length cu) vv)) rfl (by kernel_rfl) (by kernel_rfl) (by kernel_rfl) (fun _ _ _ h => h) (Or.inl ⟨by kernel_rfl, fun w' _ => by kernel_rfl⟩) hS66 ?_
                      refine wpAnyH_take (i := 9) (v := .bool dd) rfl (by kernel_rfl) (by kernel_rfl) (by kernel_rfl) (fun _ _ _ h => h) (Or.inl ⟨by kernel_rfl, fun w' _ => by kernel_rfl⟩) hS66 ?_
                      refine wpAnyH_take (i := 10) (v := .int .i64 er) rfl (by kernel_rfl) (by kernel_rfl) (by kernel_rfl) (fun _ _ _ h => h) (Or.inl ⟨by kernel_rfl, fun w' _ => by kernel_rfl⟩) hS66 ?_
                      refine wpAnyH_ready (rs := [7]) (by kernel_rfl) (by simp) ?_
                      refine AllReadyH.cons rfl (fun K hK => ?_) AllReadyH.nil
                      go_simp
                      refine hK.out _ _ hS66 fun hS72 => ?_
                      clear hK
                      have hne : wm1.heap.size ≠ wm1.heap.size + 1 := hne61
                      have HT := Lib.hid (HP5.out.told2 (valC (Value.slice U vv.l.length cu) vv) hS58 hbc68 hRc hUc h371 HZ69.out HZ70.out hlo41 (.inl hlt64) hlo63 (.inl hlt65) hne)
                      have HUG := Lib.hid (show ∀ g, (Value.slice U vv.l.length cu).ownBlock = some g → w5.heap.size ≤ g ∧ g < wd67.heap.size from fun g hg => ⟨Nat.le_trans hS58.size (hUc.2 g hg).1, Nat.lt_of_lt_of_le (hUc.2 g hg).2 h371.size⟩)
                      refine wpAnyH_ready (rs := [13]) (by kernel_rfl) (by simp) ?_
                      refine AllReadyH.cons rfl (fun K hK => ?_) AllReadyH.nil
                      rw [if_pos (by kernel_rfl)]
                      refine wp_store_row 48 _ _ rfl (wm1.heap.size) f'.cells (by kernel_rfl) (by kernel_rfl) 48 _ HZ69.out pinfo rfl (PF.ones _) ?_
                      have HV2 := Lib.hid (show Blk (wd67.setRow (wm1.heap.size) f'.cells) (wm1.heap.size + 1) 59 (valC (.slice none 0 0) SV.none) from (setRow_other _ _ _ _ (Ne.symm hne)).trans HZ70.out)
                      refine hK.out _ _ (below_setRow hS72 hlo41 _) fun hSe => ?_
                      clear hK
                      refine wpAnyH_ready (rs := [14]) (by kernel_rfl) (by simp) ?_
                      refine AllReadyH.cons rfl (fun K hK => ?_) AllReadyH.nil
                      rw [if_pos (by kernel_rfl)]
                      refine wp_store_row 59 _ _ rfl (wm1.heap.size + 1) (valC (Value.slice U vv.l.length cu) vv) (by kernel_rfl) (by kernel_rfl) 59 _ HV2.out v9info rfl (valC_ones _ _ _ _) ?_
                      refine hK.out _ _ HT.out.1.bel fun hSg => ?_
                      clear hK
                      refine wpAnyH_take (i := 15) (v := .bool dd) rfl (by kernel_rfl) (by kernel_rfl) (by kernel_rfl) (fun _ _ _ h => h) (Or.inl ⟨by kernel_rfl, fun w' _ => by kernel_rfl⟩) hSg ?_
                      refine wpAnyH_take (i := 16) (v := .int .i64 er) rfl (by kernel_rfl) (by kernel_rfl) (by kernel_rfl) (fun _ _ _ h => h) (Or.inl ⟨by kernel_rfl, fun w' _ => by kernel_rfl⟩) hSg ?_
                      refine wpAnyH_done (by kernel_rfl) ?_ _
                      go_simp
                      go_wp2
                      go_meet
                      obtain ⟨t1, t2, t3⟩ := HT.out
                      exact ⟨_, _, _, _, _, _, rfl, rfl, rfl, rfl, t1, t2, t3, hlo63, fun g hg => ⟨(HUG.out g hg).1, by simpa using (HUG.out g hg).2⟩, fun _ e => .inl e⟩
                  · go_simp
                    have had75 := Lib.hid (show wm1.heap.size = wm1.heap.size by first | rfl | simp)
                    have HZ73 := Lib.hid (show Blk (wm1.alloc (.cells (valC (.slice none 0 0) SV.none) 59)) (wm1.heap.size) 59 (valC (.slice none 0 0) SV.none) from blk_new_at had75.out _ _)
                    refine hK.out _ _ (hS3.trans ((below_alloc (w := wm1) (Nat.le_refl wm1.heap.size) (.cells (valC (.slice none 0 0) SV.none) 59)).mono hS3.size)) fun hS74 => ?_
                    clear hK
                    have hlo76 := Nat.le_trans hS3.size (Nat.le_of_eq had75.out.symm)
                    refine wpAnyH_ready (rs := [5, 11]) (by kernel_rfl) (by simp) ?_
                    refine AllReadyH.cons rfl (fun K hK => ?_) (AllReadyH.cons rfl (fun K hK => ?_) AllReadyH.nil)
                    · have hlt77 : wm1.heap.size < (wm1.alloc (.cells (valC (.slice none 0 0) SV.none) 59)).heap.size := HZ73.out.lt
                      go_simp
                      refine (HRS.out _ (HP5.out.go hS74).ri (fun k e => ((HP5.out.go hS74).yl k e).1)).mono ?_
                      rintro e wd79 ⟨f', u, rfl, hbc80, hRc, hUc⟩
                      obtain ⟨U, cu, rfl⟩ := hUc.1.form
                      have HZ81 := Lib.hid (HZ73.out.below hbc80 HZ73.out.lt)
                      have h382 := Below.refl wd79.heap.size wd79
                      refine hK.out _ _ (hS74.trans (hbc80.mono hS74.size)) fun hS78 => ?_
                      clear hK
                      refine wpAnyH_take (i := 6) (v := .tuple #[PF.v f', .agg (valC (Value.slice U vv.l.length cu) vv), .bool dd, .int .i64 er]) rfl (by kernel_rfl) (by kernel_rfl) (by kernel_rfl) (fun _ _ _ h => h) (Or.inl ⟨by kernel_rfl, fun w' _ => by kernel_rfl⟩) hS78 ?_
                      refine wpAnyH_take (i := 7) (v := PF.v f') rfl (by kernel_rfl) (by kernel_rfl) (by kernel_rfl) (fun _ _ _ h => h) (Or.inl ⟨by kernel_rfl, fun w' _ => by kernel_rfl⟩) hS78 ?_
                      refine wpAnyH_take (i := 8) (v := .agg (valC (Value.slice U vv.l.length cu) vv)) rfl (by kernel_rfl) (by kernel_rfl) (by kernel_rfl) (fun _ _ _ h => h) (Or.inl ⟨by kernel_rfl, fun w' _ => by kernel_rfl⟩) hS78 ?_
                      refine wpAnyH_take (i := 9) (v := .bool dd) rfl (by kernel_rfl) (by kernel_rfl) (by kernel_rfl) (fun _ _ _ h => h) (Or.inl ⟨by kernel_rfl, fun w' _ => by kernel_rfl⟩) hS78 ?_
                      refine wpAnyH_take (i := 10) (v := .int .i64 er) rfl (by kernel_rfl) (by kernel_rfl) (by kernel_rfl) (fun _ _ _ h => h) (Or.inl ⟨by kernel_rfl, fun w' _ => by kernel_rfl⟩) hS78 ?_
                      refine wpAnyH_ready (rs := [11]) (by kernel_rfl) (by simp) ?_
                      refine AllReadyH.cons rfl (fun K hK => ?_) AllReadyH.nil
                      go_simp
                      have had85 := Lib.hid (show wd79.heap.size = wd79.heap.size by first | rfl | simp)
                      have HZ83 := Lib.hid (show Blk (wd79.alloc (.cells zero22 48)) (wd79.heap.size) 48 zero22 from blk_new_at had85.out _ _)
                      have hlt86 : wm1.heap.size < wd79.heap.size := HZ81.out.lt
                      have hne87 : wm1.heap.size ≠ wd79.heap.size := by
                        have := had85.out
                        omega
                      have HZ88 := Lib.hid (HZ81.out.below (below_alloc (w := wd79) (Nat.le_refl wd79.heap.size) (.cells zero22 48)) HZ81.out.lt)
                      have h389 := h382.trans ((below_alloc (w := wd79) (Nat.le_refl wd79.heap.size) (.cells zero22 48)).mono h382.size)
                      have hhi90 := Nat.le_trans h382.size (Nat.le_of_eq had85.out.symm)
                      refine hK.out _ _ (hS78.trans ((below_alloc (w := wd79) (Nat.le_refl wd79.heap.size) (.cells zero22 48)).mono hS78.size)) fun hS84 => ?_
                      clear hK
                      have hlo91 := Nat.le_trans hS78.size (Nat.le_of_eq had85.out.symm)
                      have hne : wd79.heap.size ≠ wm1.heap.size := (Ne.symm hne87)
                      have HT := Lib.hid (HP5.out.told2 (valC (Value.slice U vv.l.length cu) vv) hS74 hbc80 hRc hUc h389 HZ83.out HZ88.out hlo91 (.inr hhi90) hlo76 (.inl hlt77) hne)
                      have HUG := Lib.hid (show ∀ g, (Value.slice U vv.l.length cu).ownBlock = some g → w5.heap.size ≤ g ∧ g < (wd79.alloc (.cells zero22 48)).heap.size from fun g hg => ⟨Nat.le_trans hS74.size (hUc.2 g hg).1, Nat.lt_of_lt_of_le (hUc.2 g hg).2 h389.size⟩)
                      refine wpAnyH_ready (rs := [13]) (by kernel_rfl) (by simp) ?_
                      refine AllReadyH.cons rfl (fun K hK => ?_) AllReadyH.nil
                      rw [if_pos (by kernel_rfl)]
                      refine wp_store_row 48 _ _ rfl (wd79.heap.size) f'.cells (by kernel_rfl) (by kernel_rfl) 48 _ HZ83.out pinfo rfl (PF.ones _) ?_
                      have HV2 := Lib.hid (show Blk ((wd79.alloc (.cells zero22 48)).setRow (wd79.heap.size) f'.cells) (wm1.heap.size) 59 (valC (.slice none 0 0) SV.none) from (setRow_other _ _ _ _ (Ne.symm hne)).trans HZ88.out)
                      refine hK.out _ _ (below_setRow hS84 hlo91 _) fun hSe => ?_
                      clear hK
                      refine wpAnyH_ready (rs := [14]) (by kernel_rfl) (by simp) ?_
                      refine AllReadyH.cons rfl (fun K hK => ?_) AllReadyH.nil
                      rw [if_pos (by kernel_rfl)]
                      refine wp_store_row 59 _ _ rfl (wm1.heap.size) (valC (Value.slice U vv.l.length cu) vv) (by kernel_rfl) (by kernel_rfl) 59 _ HV2.out v9info rfl (valC_ones _ _ _ _) ?_
                      refine hK.out _ _ HT.out.1.bel fun hSg => ?_
                      clear hK
                      refine wpAnyH_take (i := 15) (v := .bool dd) rfl (by kernel_rfl) (by kernel_rfl) (by kernel_rfl) (fun _ _ _ h => h) (Or.inl ⟨by kernel_rfl, fun w' _ => by kernel_rfl⟩) hSg ?_
                      refine wpAnyH_take (i := 16) (v := .int .i64 er) rfl (by kernel_rfl) (by kernel_rfl) (by kernel_rfl) (fun _ _ _ h => h) (Or.inl ⟨by kernel_rfl, fun w' _ => by kernel_rfl⟩) hSg ?_
                      refine wpAnyH_done (by kernel_rfl) ?_ _
                      go_simp
                      go_wp2
                      go_meet
                      obtain ⟨t1, t2, t3⟩ := HT.out
                      exact ⟨_, _, _, _, _, _, rfl, rfl, rfl, rfl, t1, t2, t3, hlo76, fun g hg => ⟨(HUG.out g hg).1, by simpa using (HUG.out g hg).2⟩, fun _ e => .inl e⟩
                    · go_simp
                      have had94 := Lib.hid (show wm1.heap.size + 1 = (wm1.alloc (.cells (valC (.slice none 0 0) SV.none) 59)).heap.size by first | rfl | simp)
                      have HZ92 := Lib.hid (show Blk ((wm1.alloc (.cells (valC (.slice none 0 0) SV.none) 59)).alloc (.cells zero22 48)) (wm1.heap.size + 1) 48 zero22 from blk_new_at had94.out _ _)
                      have hlt95 : wm1.heap.size < (wm1.alloc (.cells (valC (.slice none 0 0) SV.none) 59)).heap.size := HZ73.out.lt
                      have hne96 : wm1.heap.size ≠ wm1.heap.size + 1 := by
                        have := had94.out
                        omega
                      have HZ97 := Lib.hid (HZ73.out.below (below_alloc (w := (wm1.alloc (.cells (valC (.slice none 0 0) SV.none) 59))) (Nat.le_refl (wm1.alloc (.cells (valC (.slice none 0 0) SV.none) 59)).heap.size) (.cells zero22 48)) HZ73.out.lt)
                      refine hK.out _ _ (hS74.trans ((below_alloc (w := (wm1.alloc (.cells (valC (.slice none 0 0) SV.none) 59))) (Nat.le_refl (wm1.alloc (.cells (valC (.slice none 0 0) SV.none) 59)).heap.size) (.cells zero22 48)).mono hS74.size)) fun hS93 => ?_
                      clear hK
                      have hlo98 := Nat.le_trans hS74.size (Nat.le_of_eq had94.out.symm)
                      refine wpAnyH_ready (rs := [5]) (by kernel_rfl) (by simp) ?_
                      refine AllReadyH.cons rfl (fun K hK => ?_) AllReadyH.nil
                      have hlt99 : wm1.heap.size < ((wm1.alloc (.cells (valC (.slice none 0 0) SV.none) 59)).alloc (.cells zero22 48)).heap.size := HZ97.out.lt
                      have hlt100 : wm1.heap.size + 1 < ((wm1.alloc (.cells (valC (.slice none 0 0) SV.none) 59)).alloc (.cells zero22 48)).heap.size := HZ92.out.lt
                      go_simp
                      refine (HRS.out _ (HP5.out.go hS93).ri (fun k e => ((HP5.out.go hS93).yl k e).1)).mono ?_
                      rintro e wd102 ⟨f', u, rfl, hbc103, hRc, hUc⟩
                      obtain ⟨U, cu, rfl⟩ := hUc.1.form
                      have HZ104 := Lib.hid (HZ97.out.below hbc103 HZ97.out.lt)
                      have HZ105 := Lib.hid (HZ92.out.below hbc103 HZ92.out.lt)
                      have h3106 := Below.refl wd102.heap.size wd102
                      refine hK.out _ _ (hS93.trans (hbc103.mono hS93.size)) fun hS101 => ?_
                      clear hK
                      refine wpAnyH_take (i := 6) (v := .tuple #[PF.v f', .agg (valC (Value.slice U vv.l.length cu) vv), .bool dd, .int .i64 er]) rfl (by kernel_rfl) (by kernel_rfl) (by kernel_rfl) (fun _ _ _ h => h) (Or.inl ⟨by kernel_rfl, fun w' _ => by kernel_rfl⟩) hS101 ?_
                      refine wpAnyH_take (i := 8) (v := .agg (valC (Value.slice U vv.l.length cu) vv)) rfl (by kernel_rfl) (by kernel_rfl) (by kernel_rfl) (fun _ _ _ h => h) (Or.inl ⟨by kernel_rfl, fun w' _ => by kernel_rfl⟩) hS101 ?_
                      refine wpAnyH_take (i := 9) (v := .bool dd) rfl (by kernel_rfl) (by kernel_rfl) (by kernel_rfl) (fun _ _ _ h => h) (Or.inl ⟨by kernel_rfl, fun w' _ => by kernel_rfl⟩) hS101 ?_
                      refine wpAnyH_take (i := 10) (v := .int .i64 er) rfl (by kernel_rfl) (by kernel_rfl) (by kernel_rfl) (fun _ _ _ h => h) (Or.inl ⟨by kernel_rfl, fun w' _ => by kernel_rfl⟩) hS101 ?_
                      refine wpAnyH_ready (rs := [7]) (by kernel_rfl) (by simp) ?_
                      refine AllReadyH.cons rfl (fun K hK => ?_) AllReadyH.nil
                      go_simp
                      refine hK.out _ _ hS101 fun hS107 => ?_
                      clear hK
                      have hne : wm1.heap.size + 1 ≠ wm1.heap.size := (Ne.symm hne96)
                      have HT := Lib.hid (HP5.out.told2 (valC (Value.slice U vv.l.length cu) vv) hS93 hbc103 hRc hUc h3106 HZ105.out HZ104.out hlo98 (.inl hlt100) hlo76 (.inl hlt99) hne)
                      have HUG := Lib.hid (show ∀ g, (Value.slice U vv.l.length cu).ownBlock = some g → w5.heap.size ≤ g ∧ g < wd102.heap.size from fun g hg => ⟨Nat.le_trans hS93.size (hUc.2 g hg).1, Nat.lt_of_lt_of_le (hUc.2 g hg).2 h3106.size⟩)
                      refine wpAnyH_ready (rs := [13]) (by kernel_rfl) (by simp) ?_
                      refine AllReadyH.cons rfl (fun K hK => ?_) AllReadyH.nil
                      rw [if_pos (by kernel_rfl)]
                      refine wp_store_row 48 _ _ rfl (wm1.heap.size + 1) f'.cells (by kernel_rfl) (by kernel_rfl) 48 _ HZ105.out pinfo rfl (PF.ones _) ?_
                      have HV2 := Lib.hid (show Blk (wd102.setRow (wm1.heap.size + 1) f'.cells) (wm1.heap.size) 59 (valC (.slice none 0 0) SV.none) from (setRow_other _ _ _ _ (Ne.symm hne)).trans HZ104.out)
                      refine hK.out _ _ (below_setRow hS107 hlo98 _) fun hSe => ?_
                      clear hK
                      refine wpAnyH_ready (rs := [14]) (by kernel_rfl) (by simp) ?_
                      refine AllReadyH.cons rfl (fun K hK => ?_) AllReadyH.nil
                      rw [if_pos (by kernel_rfl)]
                      refine wp_store_row 59 _ _ rfl (wm1.heap.size) (valC (Value.slice U vv.l.length cu) vv) (by kernel_rfl) (by kernel_rfl) 59 _ HV2.out v9info rfl (valC_ones _ _ _ _) ?_
                      refine hK.out _ _ HT.out.1.bel fun hSg => ?_
                      clear hK
                      refine wpAnyH_take (i := 15) (v := .bool dd) rfl (by kernel_rfl) (by kernel_rfl) (by kernel_rfl) (fun _ _ _ h => h) (Or.inl ⟨by kernel_rfl, fun w' _ => by kernel_rfl⟩) hSg ?_
                      refine wpAnyH_take (i := 16) (v := .int .i64 er) rfl (by kernel_rfl) (by kernel_rfl) (by kernel_rfl) (fun _ _ _ h => h) (Or.inl ⟨by kernel_rfl, fun w' _ => by kernel_rfl⟩) hSg ?_
                      refine wpAnyH_done (by kernel_rfl) ?_ _
                      go_simp
                      go_wp2
                      go_meet
                      obtain ⟨t1, t2, t3⟩ := HT.out
                      exact ⟨_, _, _, _, _, _, rfl, rfl, rfl, rfl, t1, t2, t3, hlo76, fun g hg => ⟨(HUG.out g hg).1, by simpa using (HUG.out g hg).2⟩, fun _ e => .inl e⟩
                · go_simp
                  have had110 := Lib.hid (show w5.heap.size = w5.drew.heap.size by first | rfl | simp)
                  have HZ108 := Lib.hid (show Blk (w5.drew.alloc (.cells zero22 48)) (w5.heap.size) 48 zero22 from blk_new_at had110.out _ _)
                  refine hK.out _ _ (hS0.trans ((below_alloc (w := w5.drew) (Nat.le_refl w5.drew.heap.size) (.cells zero22 48)).mono hS0.size)) fun hS109 => ?_
                  clear hK
                  have hlo111 := Nat.le_trans hS0.size (Nat.le_of_eq had110.out.symm)
                  refine wpAnyH_ready (rs := [2, 12]) (by kernel_rfl) (by simp) ?_
                  refine AllReadyH.cons rfl (fun K hK => ?_) (AllReadyH.cons rfl (fun K hK => ?_) AllReadyH.nil)
                  · go_simp
                    refine (HKS.out _).mono ?_
                    rintro e wm112 ⟨rfl, hbm113⟩
                    have HZ115 := Lib.hid (HZ108.out.below hbm113 HZ108.out.lt)
                    refine hK.out _ _ (hS109.trans (hbm113.mono hS109.size)) fun hS114 => ?_
                    clear hK
                    refine wpAnyH_take (i := 3) (v := .bool bb) rfl (by kernel_rfl) (by kernel_rfl) (by kernel_rfl) (fun _ _ _ h => h) (Or.inl ⟨by kernel_rfl, fun w' _ => by rw [HBB.out]; go_simp⟩) hS114 ?_
                    refine wpAnyH_ready (rs := [5, 12]) (by kernel_rfl) (by simp) ?_
                    refine AllReadyH.cons rfl (fun K hK => ?_) (AllReadyH.cons rfl (fun K hK => ?_) AllReadyH.nil)
                    · have hlt116 : w5.heap.size < wm112.heap.size := HZ115.out.lt
                      go_simp
                      refine (HRS.out _ (HP5.out.go hS114).ri (fun k e => ((HP5.out.go hS114).yl k e).1)).mono ?_
                      rintro e wd118 ⟨f', u, rfl, hbc119, hRc, hUc⟩
                      obtain ⟨U, cu, rfl⟩ := hUc.1.form
                      have HZ120 := Lib.hid (HZ115.out.below hbc119 HZ115.out.lt)
                      have h3121 := Below.refl wd118.heap.size wd118
                      refine hK.out _ _ (hS114.trans (hbc119.mono hS114.size)) fun hS117 => ?_
                      clear hK
                      refine wpAnyH_take (i := 6) (v := .tuple #[PF.v f', .agg (valC (Value.slice U vv.l.length cu) vv), .bool dd, .int .i64 er]) rfl (by kernel_rfl) (by kernel_rfl) (by kernel_rfl) (fun _ _ _ h => h) (Or.inl ⟨by kernel_rfl, fun w' _ => by kernel_rfl⟩) hS117 ?_
                      refine wpAnyH_take (i := 7) (v := PF.v f') rfl (by kernel_rfl) (by kernel_rfl) (by kernel_rfl) (fun _ _ _ h => h) (Or.inl ⟨by kernel_rfl, fun w' _ => by kernel_rfl⟩) hS117 ?_
                      refine wpAnyH_take (i := 8) (v := .agg (valC (Value.slice U vv.l.length cu) vv)) rfl (by kernel_rfl) (by kernel_rfl) (by kernel_rfl) (fun _ _ _ h => h) (Or.inl ⟨by kernel_rfl, fun w' _ => by kernel_rfl⟩) hS117 ?_
                      refine wpAnyH_take (i := 9) (v := .bool dd) rfl (by kernel_rfl) (by kernel_rfl) (by kernel_rfl) (fun _ _ _ h => h) (Or.inl ⟨by kernel_rfl, fun w' _ => by kernel_rfl⟩) hS117 ?_
                      refine wpAnyH_take (i := 10) (v := .int .i64 er) rfl (by kernel_rfl) (by kernel_rfl) (by kernel_rfl) (fun _ _ _ h => h) (Or.inl ⟨by kernel_rfl, fun w' _ => by kernel_rfl⟩) hS117 ?_
                      refine wpAnyH_ready (rs := [12]) (by kernel_rfl) (by simp) ?_
                      refine AllReadyH.cons rfl (fun K hK => ?_) AllReadyH.nil
                      go_simp
                      have had124 := Lib.hid (show wd118.heap.size = wd118.heap.size by first | rfl | simp)
                      have HZ122 := Lib.hid (show Blk (wd118.alloc (.cells (valC (.slice none 0 0) SV.none) 59)) (wd118.heap.size) 59 (valC (.slice none 0 0) SV.none) from blk_new_at had124.out _ _)
                      have hlt125 : w5.heap.size < wd118.heap.size := HZ120.out.lt
                      have hne126 : w5.heap.size ≠ wd118.heap.size := by
                        have := had124.out
                        omega
                      have HZ127 := Lib.hid (HZ120.out.below (below_alloc (w := wd118) (Nat.le_refl wd118.heap.size) (.cells (valC (.slice none 0 0) SV.none) 59)) HZ120.out.lt)
                      have h3128 := h3121.trans ((below_alloc (w := wd118) (Nat.le_refl wd118.heap.size) (.cells (valC (.slice none 0 0) SV.none) 59)).mono h3121.size)
                      have hhi129 := Nat.le_trans h3121.size (Nat.le_of_eq had124.out.symm)
                      refine hK.out _ _ (hS117.trans ((below_alloc (w := wd118) (Nat.le_refl wd118.heap.size) (.cells (valC (.slice none 0 0) SV.none) 59)).mono hS117.size)) fun hS123 => ?_
                      clear hK
                      have hlo130 := Nat.le_trans hS117.size (Nat.le_of_eq had124.out.symm)
                      have hne : w5.heap.size ≠ wd118.heap.size := hne126
                      have HT := Lib.hid (HP5.out.told2 (valC (Value.slice U vv.l.length cu) vv) hS114 hbc119 hRc hUc h3128 HZ127.out HZ122.out hlo111 (.inl hlt116) hlo130 (.inr hhi129) hne)
                      have HUG := Lib.hid (show ∀ g, (Value.slice U vv.l.length cu).ownBlock = some g → w5.heap.size ≤ g ∧ g < (wd118.alloc (.cells (valC (.slice none 0 0) SV.none) 59)).heap.size from fun g hg => ⟨Nat.le_trans hS114.size (hUc.2 g hg).1, Nat.lt_of_lt_of_le (hUc.2 g hg).2 h3128.size⟩)
                      refine wpAnyH_ready (rs := [13]) (by kernel_rfl) (by simp) ?_
                      refine AllReadyH.cons rfl (fun K hK => ?_) AllReadyH.nil
                      rw [if_pos (by kernel_rfl)]
                      refine wp_store_row 48 _ _ rfl (w5.heap.size) f'.cells (by kernel_rfl) (by kernel_rfl) 48 _ HZ127.out pinfo rfl (PF.ones _) ?_
                      have HV2 := Lib.hid (show Blk ((wd118.alloc (.cells (valC (.slice none 0 0) SV.none) 59)).setRow (w5.heap.size) f'.cells) (wd118.heap.size) 59 (valC (.slice none 0 0) SV.none) from (setRow_other _ _ _ _ (Ne.symm hne)).trans HZ122.out)
                      refine hK.out _ _ (below_setRow hS123 hlo111 _) fun hSe => ?_
                      clear hK
                      refine wpAnyH_ready (rs := [14]) (by kernel_rfl) (by simp) ?_
                      refine AllReadyH.cons rfl (fun K hK => ?_) AllReadyH.nil
                      rw [if_pos (by kernel_rfl)]
                      refine wp_store_row 59 _ _ rfl (wd118.heap.size) (valC (Value.slice U vv.l.length cu) vv) (by kernel_rfl) (by kernel_rfl) 59 _ HV2.out v9info rfl (valC_ones _ _ _ _) ?_
                      refine hK.out _ _ HT.out.1.bel fun hSg => ?_
                      clear hK
                      refine wpAnyH_take (i := 15) (v := .bool dd) rfl (by kernel_rfl) (by kernel_rfl) (by kernel_rfl) (fun _ _ _ h => h) (Or.inl ⟨by kernel_rfl, fun w' _ => by kernel_rfl⟩) hSg ?_
                      refine wpAnyH_take (i := 16) (v := .int .i64 er) rfl (by kernel_rfl) (by kernel_rfl) (by kernel_rfl) (fun _ _ _ h => h) (Or.inl ⟨by kernel_rfl, fun w' _ => by kernel_rfl⟩) hSg ?_
                      refine wpAnyH_done (by kernel_rfl) ?_ _
                      go_simp
                      go_wp2
                      go_meet
                      obtain ⟨t1, t2, t3⟩ := HT.out
                      exact ⟨_, _, _, _, _, _, rfl, rfl, rfl, rfl, t1, t2, t3, hlo130, fun g hg => ⟨(HUG.out g hg).1, by simpa using (HUG.out g hg).2⟩, fun _ e => .inl e⟩
                    · go_simp
                      have had133 := Lib.hid (show wm112.heap.size = wm112.heap.size by first | rfl | simp)
                      have HZ131 := Lib.hid (show Blk (wm112.alloc (.cells (valC (.slice none 0 0) SV.none) 59)) (wm112.heap.size) 59 (valC (.slice none 0 0) SV.none) from blk_new_at had133.out _ _)
                      have hlt134 : w5.heap.size < wm112.heap.size := HZ115.out.lt
                      have hne135 : w5.heap.size ≠ wm112.heap.size := by
                        have := had133.out
                        omega
                      have HZ136 := Lib.hid (HZ115.out.below (below_alloc (w := wm112) (Nat.le_refl wm112.heap.size) (.cells (valC (.slice none 0 0) SV.none) 59)) HZ115.out.lt)
                      refine hK.out _ _ (hS114.trans ((below_alloc (w := wm112) (Nat.le_refl wm112.heap.size) (.cells (valC (.slice none 0 0) SV.none) 59)).mono hS114.size)) fun hS132 => ?_
                      clear hK
                      have hlo137 := Nat.le_trans hS114.size (Nat.le_of_eq had133.out.symm)
                      refine wpAnyH_ready (rs := [5]) (by kernel_rfl) (by simp) ?_
                      refine AllReadyH.cons rfl (fun K hK => ?_) AllReadyH.nil
                      have hlt138 : w5.heap.size < (wm112.alloc (.cells (valC (.slice none 0 0) SV.none) 59)).heap.size := HZ136.out.lt
                      have hlt139 : wm112.heap.size < (wm112.alloc (.cells (valC (.slice none 0 0) SV.none) 59)).heap.size := HZ131.out.lt
                      go_simp
                      refine (HRS.out _ (HP5.out.go hS132).ri (fun k e => ((HP5.out.go hS132).yl k e).1)).mono ?_
                      rintro e wd141 ⟨f', u, rfl, hbc142, hRc, hUc⟩
                      obtain ⟨U, cu, rfl⟩ := hUc.1.form
                      have HZ143 := Lib.hid (HZ136.out.below hbc142 HZ136.out.lt)
                      have HZ144 := Lib.hid (HZ131.out.below hbc142 HZ131.out.lt)
                      have h3145 := Below.refl wd141.heap.size wd141
                      refine hK.out _ _ (hS132.trans (hbc142.mono hS132.size)) fun hS140 => ?_
                      clear hK
                      refine wpAnyH_take (i := 6) (v := .tuple #[PF.v f', .agg (valC (Value.slice U vv.l.length cu) vv), .bool dd, .int .i64 er]) rfl (by kernel_rfl) (by kernel_rfl) (by kernel_rfl) (fun _ _ _ h => h) (Or.inl ⟨by kernel_rfl, fun w' _ => by kernel_rfl⟩) hS140 ?_
                      refine wpAnyH_take (i := 8) (v := .agg (valC (Value.slice U vv.l.length cu) vv)) rfl (by kernel_rfl) (by kernel_rfl) (by kernel_rfl) (fun _ _ _ h => h) (Or.inl ⟨by kernel_rfl, fun w' _ => by kernel_rfl⟩) hS140 ?_
                      refine wpAnyH_take (i := 9) (v := .bool dd) rfl (by kernel_rfl) (by kernel_rfl) (by kernel_rfl) (fun _ _ _ h => h) (Or.inl ⟨by kernel_rfl, fun w' _ => by kernel_rfl⟩) hS140 ?_
                      refine wpAnyH_take (i := 10) (v := .int .i64 er) rfl (by kernel_rfl) (by kernel_rfl) (by kernel_rfl) (fun _ _ _ h => h) (Or.inl ⟨by kernel_rfl, fun w' _ => by kernel_rfl⟩) hS140 ?_
                      refine wpAnyH_ready (rs := [7]) (by kernel_rfl) (by simp) ?_
                      refine AllReadyH.cons rfl (fun K hK => ?_) AllReadyH.nil
                      go_simp
                      refine hK.out _ _ hS140 fun hS146 => ?_
                      clear hK
                      have hne : w5.heap.size ≠ wm112.heap.size := hne135
                      have HT := Lib.hid (HP5.out.told2 (valC (Value.slice U vv.l.length cu) vv) hS132 hbc142 hRc hUc h3145 HZ143.out HZ144.out hlo111 (.inl hlt138) hlo137 (.inl hlt139) hne)
                      have HUG := Lib.hid (show ∀ g, (Value.slice U vv.l.length cu).ownBlock = some g → w5.heap.size ≤ g ∧ g < wd141.heap.size from fun g hg => ⟨Nat.le_trans hS132.size (hUc.2 g hg).1, Nat.lt_of_lt_of_le (hUc.2 g hg).2 h3145.size⟩)
                      refine wpAnyH_ready (rs := [13]) (by kernel_rfl) (by simp) ?_
                      refine AllReadyH.cons rfl (fun K hK => ?_) AllReadyH.nil
                      rw [if_pos (by kernel_rfl)]
                      refine wp_store_row 48 _ _ rfl (w5.heap.size) f'.cells (by kernel_rfl) (by kernel_rfl) 48 _ HZ143.out pinfo rfl (PF.ones _) ?_
                      have HV2 := Lib.hid (show Blk (wd141.setRow (w5.heap.size) f'.cells) (wm112.heap.size) 59 (valC (.slice none 0 0) SV.none) from (setRow_other _ _ _ _ (Ne.symm hne)).trans HZ144.out)
                      refine hK.out _ _ (below_setRow hS146 hlo111 _) fun hSe => ?_
                      clear hK
                      refine wpAnyH_ready (rs := [14]) (by kernel_rfl) (by simp) ?_
                      refine AllReadyH.cons rfl (fun K hK => ?_) AllReadyH.nil
                      rw [if_pos (by kernel_rfl)]
                      refine wp_store_row 59 _ _ rfl (wm112.heap.size) (valC (Value.slice U vv.l.length cu) vv) (by kernel_rfl) (by kernel_rfl) 59 _ HV2.out v9info rfl (valC_ones _ _ _ _) ?_
                      refine hK.out _ _ HT.out.1.bel fun hSg => ?_
                      clear hK
                      refine wpAnyH_take (i := 15) (v := .bool dd) rfl (by kernel_rfl) (by kernel_rfl) (by kernel_rfl) (fun _ _ _ h => h) (Or.inl ⟨by kernel_rfl, fun w' _ => by kernel_rfl⟩) hSg ?_
                      refine wpAnyH_take (i := 16) (v := .int .i64 er) rfl (by kernel_rfl) (by kernel_rfl) (by kernel_rfl) (fun _ _ _ h => h) (Or.inl ⟨by kernel_rfl, fun w' _ => by kernel_rfl⟩) hSg ?_
                      refine wpAnyH_done (by kernel_rfl) ?_ _
                      go_simp
                      go_wp2
                      go_meet
                      obtain ⟨t1, t2, t3⟩ := HT.out
                      exact ⟨_, _, _, _, _, _, rfl, rfl, rfl, rfl, t1, t2, t3, hlo137, fun g hg => ⟨(HUG.out g hg).1, by simpa using (HUG.out g hg).2⟩, fun _ e => .inl e⟩
                  · go_simp
                    have had149 := Lib.hid (show w5.heap.size + 1 = (w5.drew.alloc (.cells zero22 48)).heap.size by first | rfl | simp)
                    have HZ147 := Lib.hid (show Blk ((w5.drew.alloc (.cells zero22 48)).alloc (.cells (valC (.slice none 0 0) SV.none) 59)) (w5.heap.size + 1) 59 (valC (.slice none 0 0) SV.none) from blk_new_at had149.out _ _)
                    have hlt150 : w5.heap.size < (w5.drew.alloc (.cells zero22 48)).heap.size := HZ108.out.lt
                    have hne151 : w5.heap.size ≠ w5.heap.size + 1 := by
                      have := had149.out
                      omega
                    have HZ152 := Lib.hid (HZ108.out.below (below_alloc (w := (w5.drew.alloc (.cells zero22 48))) (Nat.le_refl (w5.drew.alloc (.cells zero22 48)).heap.size) (.cells (valC (.slice none 0 0) SV.none) 59)) HZ108.out.lt)
                    refine hK.out _ _ (hS109.trans ((below_alloc (w := (w5.drew.alloc (.cells zero22 48))) (Nat.le_refl (w5.drew.alloc (.cells zero22 48)).heap.size) (.cells (valC (.slice none 0 0) SV.none) 59)).mono hS109.size)) fun hS148 => ?_
                    clear hK
                    have hlo153 := Nat.le_trans hS109.size (Nat.le_of_eq had149.out.symm)
                    refine wpAnyH_ready (rs := [2]) (by kernel_rfl) (by simp) ?_
                    refine AllReadyH.cons rfl (fun K hK => ?_) AllReadyH.nil
                    go_simp
                    refine (HKS.out _).mono ?_
                    rintro e wm154 ⟨rfl, hbm155⟩
                    have HZ157 := Lib.hid (HZ152.out.below hbm155 HZ152.out.lt)
                    have HZ158 := Lib.hid (HZ147.out.below hbm155 HZ147.out.lt)
                    refine hK.out _ _ (hS148.trans (hbm155.mono hS148.size)) fun hS156 => ?_
                    clear hK
                    refine wpAnyH_take (i := 3) (v := .bool bb) rfl (by kernel_rfl) (by kernel_rfl) (by kernel_rfl) (fun _ _ _ h => h) (Or.inl ⟨by kernel_rfl, fun w' _ => by rw [HBB.out]; go_simp⟩) hS156 ?_
                    refine wpAnyH_ready (rs := [5]) (by kernel_rfl) (by simp) ?_
                    refine AllReadyH.cons rfl (fun K hK => ?_) AllReadyH.nil
                    have hlt159 : w5.heap.size < wm154.heap.size := HZ157.out.lt
                    have hlt160 : w5.heap.size + 1 < wm154.heap.size := HZ158.out.lt
                    go_simp
                    refine (HRS.out _ (HP5.out.go hS156).ri (fun k e => ((HP5.out.go hS156).yl k e).1)).mono ?_
                    rintro e wd162 ⟨f', u, rfl, hbc163, hRc, hUc⟩
                    obtain ⟨U, cu, rfl⟩ := hUc.1.form
                    have HZ164 := Lib.hid (HZ157.out.below hbc163 HZ157.out.lt)
                    have HZ165 := Lib.hid (HZ158.out.below hbc163 HZ158.out.lt)
                    have h3166 := Below.refl wd162.heap.size wd162
                    refine hK.out _ _ (hS156.trans (hbc163.mono hS156.size)) fun hS161 => ?_
                    clear hK
                    refine wpAnyH_take (i := 6) (v := .tuple #[PF.v f', .agg (valC (Value.slice U vv.l.length cu) vv), .bool dd, .int .i64 er]) rfl (by kernel_rfl) (by kernel_rfl) (by kernel_rfl) (fun _ _ _ h => h) (Or.inl ⟨by kernel_rfl, fun w' _ => by kernel_rfl⟩) hS161 ?_
                    refine wpAnyH_take (i := 8) (v := .agg (valC (Value.slice U vv.l.length cu) vv)) rfl (by kernel_rfl) (by kernel_rfl) (by kernel_rfl) (fun _ _ _ h => h) (Or.inl ⟨by kernel_rfl, fun w' _ => by kernel_rfl⟩) hS161 ?_
                    refine wpAnyH_take (i := 9) (v := .bool dd) rfl (by kernel_rfl) (by kernel_rfl) (by kernel_rfl) (fun _ _ _ h => h) (Or.inl ⟨by kernel_rfl, fun w' _ => by kernel_rfl⟩) hS161 ?_
                    refine wpAnyH_take (i := 10) (v := .int .i64 er) rfl (by kernel_rfl) (by kernel_rfl) (by kernel_rfl) (fun _ _ _ h => h) (Or.inl ⟨by kernel_rfl, fun w' _ => by kernel_rfl⟩) hS161 ?_
                    refine wpAnyH_ready (rs := [7]) (by kernel_rfl) (by simp) ?_
                    refine AllReadyH.cons rfl (fun K hK => ?_) AllReadyH.nil
                    go_simp
                    refine hK.out _ _ hS161 fun hS167 => ?_
                    clear hK
                    have hne : w5.heap.size ≠ w5.heap.size + 1 := hne151
                    have HT := Lib.hid (HP5.out.told2 (valC (Value.slice U vv.l.length cu) vv) hS156 hbc163 hRc hUc h3166 HZ164.out HZ165.out hlo111 (.inl hlt159) hlo153 (.inl hlt160) hne)
                    have HUG := Lib.hid (show ∀ g, (Value.slice U vv.l.length cu).ownBlock = some g → w5.heap.size ≤ g ∧ g < wd162.heap.size from fun g hg => ⟨Nat.le_trans hS156.size (hUc.2 g hg).1, Nat.lt_of_lt_of_le (hUc.2 g hg).2 h3166.size⟩)
                    refine wpAnyH_ready (rs := [13]) (by kernel_rfl) (by simp) ?_
                    refine AllReadyH.cons rfl (fun K hK => ?_) AllReadyH.nil
                    rw [if_pos (by kernel_rfl)]
                    refine wp_store_row 48 _ _ rfl (w5.heap.size) f'.cells (by kernel_rfl) (by kernel_rfl) 48 _ HZ164.out pinfo rfl (PF.ones _) ?_
                    have HV2 := Lib.hid (show Blk (wd162.setRow (w5.heap.size) f'.cells) (w5.heap.size + 1) 59 (valC (.slice none 0 0) SV.none) from (setRow_other _ _ _ _ (Ne.symm hne)).trans HZ165.out)
                    refine hK.out _ _ (below_setRow hS167 hlo111 _) fun hSe => ?_
                    clear hK
                    refine wpAnyH_ready (rs := [14]) (by kernel_rfl) (by simp) ?_
                    refine AllReadyH.cons rfl (fun K hK => ?_) AllReadyH.nil
                    rw [if_pos (by kernel_rfl)]
                    refine wp_store_row 59 _ _ rfl (w5.heap.size + 1) (valC (Value.slice U vv.l.length cu) vv) (by kernel_rfl) (by kernel_rfl) 59 _ HV2.out v9info rfl (valC_ones _ _ _ _) ?_
                    refine hK.out _ _ HT.out.1.bel fun hSg => ?_
                    clear hK
                    refine wpAnyH_take (i := 15) (v := .bool dd) rfl (by kernel_rfl) (by kernel_rfl) (by kernel_rfl) (fun _ _ _ h => h) (Or.inl ⟨by kernel_rfl, fun w' _ => by kernel_rfl⟩) hSg ?_
                    refine wpAnyH_take (i := 16) (v := .int .i64 er) rfl (by kernel_rfl) (by kernel_rfl) (by kernel_rfl) (fun _ _ _ h => h) (Or.inl ⟨by kernel_rfl, fun w' _ => by kernel_rfl⟩) hSg ?_
                    refine wpAnyH_done (by kernel_rfl) ?_ _
                    go_simp
                    go_wp2
                    go_meet
                    obtain ⟨t1, t2, t3⟩ := HT.out
                    exact ⟨_, _, _, _, _, _, rfl, rfl, rfl, rfl, t1, t2, t3, hlo153, fun g hg => ⟨(HUG.out g hg).1, by simpa using (HUG.out g hg).2⟩, fun _ e => .inl e⟩
                · go_simp
                  have had170 := Lib.hid (show w5.heap.size = w5.drew.heap.size by first | rfl | simp)
                  have HZ168 := Lib.hid (show Blk (w5.drew.alloc (.cells (valC (.slice none 0 0) SV.none) 59)) (w5.heap.size) 59 (valC (.slice none 0 0) SV.none) from blk_new_at had170.out _ _)
                  refine hK.out _ _ (hS0.trans ((below_alloc (w := w5.drew) (Nat.le_refl w5.drew.heap.size) (.cells (valC (.slice none 0 0) SV.none) 59)).mono hS0.size)) fun hS169 => ?_
                  clear hK
                  have hlo171 := Nat.le_trans hS0.size (Nat.le_of_eq had170.out.symm)
                  refine wpAnyH_ready (rs := [2, 11]) (by kernel_rfl) (by simp) ?_
                  refine AllReadyH.cons rfl (fun K hK => ?_) (AllReadyH.cons rfl (fun K hK => ?_) AllReadyH.nil)
                  · go_simp
                    refine (HKS.out _).mono ?_
                    rintro e wm172 ⟨rfl, hbm173⟩
                    have HZ175 := Lib.hid (HZ168.out.below hbm173 HZ168.out.lt)
                    refine hK.out _ _ (hS169.trans (hbm173.mono hS169.size)) fun hS174 => ?_
                    clear hK
                    refine wpAnyH_take (i := 3) (v := .bool bb) rfl (by kernel_rfl) (by kernel_rfl) (by kernel_rfl) (fun _ _ _ h => h) (Or.inl ⟨by kernel_rfl, fun w' _ => by rw [HBB.out]; go_simp⟩) hS174 ?_
                    refine wpAnyH_ready (rs := [5, 11]) (by kernel_rfl) (by simp) ?_
                    refine AllReadyH.cons rfl (fun K hK => ?_) (AllReadyH.cons rfl (fun K hK => ?_) AllReadyH.nil)
                    · have hlt176 : w5.heap.size < wm172.heap.size := HZ175.out.lt
                      go_simp
                      refine (HRS.out _ (HP5.out.go hS174).ri (fun k e => ((HP5.out.go hS174).yl k e).1)).mono ?_
                      rintro e wd178 ⟨f', u, rfl, hbc179, hRc, hUc⟩
                      obtain ⟨U, cu, rfl⟩ := hUc.1.form
                      have HZ180 := Lib.hid (HZ175.out.below hbc179 HZ175.out.lt)
                      have h3181 := Below.refl wd178.heap.size wd178
                      refine hK.out _ _ (hS174.trans (hbc179.mono hS174.size)) fun hS177 => ?_
                      clear hK
                      refine wpAnyH_take (i := 6) (v := .tuple #[PF.v f', .agg (valC (Value.slice U vv.l.length cu) vv), .bool dd, .int .i64 er]) rfl (by kernel_rfl) (by kernel_rfl) (by kernel_rfl) (fun _ _ _ h => h) (Or.inl ⟨by kernel_rfl, fun w' _ => by kernel_rfl⟩) hS177 ?_
                      refine wpAnyH_take (i := 7) (v := PF.v f') rfl (by kernel_rfl) (by kernel_rfl) (by kernel_rfl) (fun _ _ _ h => h) (Or.inl ⟨by kernel_rfl, fun w' _ => by kernel_rfl⟩) hS177 ?_
                      refine wpAnyH_take (i := 8) (v := .agg (valC (Value.slice U vv.l.length cu) vv)) rfl (by kernel_rfl) (by kernel_rfl) (by kernel_rfl) (fun _ _ _ h => h) (Or.inl ⟨by kernel_rfl, fun w' _ => by kernel_rfl⟩) hS177 ?_
                      refine wpAnyH_take (i := 9) (v := .bool dd) rfl (by kernel_rfl) (by kernel_rfl) (by kernel_rfl) (fun _ _ _ h => h) (Or.inl ⟨by kernel_rfl, fun w' _ => by kernel_rfl⟩) hS177 ?_
                      refine wpAnyH_take (i := 10) (v := .int .i64 er) rfl (by kernel_rfl) (by kernel_rfl) (by kernel_rfl) (fun _ _ _ h => h) (Or.inl ⟨by kernel_rfl, fun w' _ => by kernel_rfl⟩) hS177 ?_
                      refine wpAnyH_ready (rs := [11]) (by kernel_rfl) (by simp) ?_
                      refine AllReadyH.cons rfl (fun K hK => ?_) AllReadyH.nil
                      go_simp
                      have had184 := Lib.hid (show wd178.heap.size = wd178.heap.size by first | rfl | simp)
                      have HZ182 := Lib.hid (show Blk (wd178.alloc (.cells zero22 48)) (wd178.heap.size) 48 zero22 from blk_new_at had184.out _ _)
                      have hlt185 : w5.heap.size < wd178.heap.size := HZ180.out.lt
                      have hne186 : w5.heap.size ≠ wd178.heap.size := by
                        have := had184.out
                        omega
                      have HZ187 := Lib.hid (HZ180.out.below (below_alloc (w := wd178) (Nat.le_refl wd178.heap.size) (.cells zero22 48)) HZ180.out.lt)
                      have h3188 := h3181.trans ((below_alloc (w := wd178) (Nat.le_refl wd178.heap.size) (.cells zero22 48)).mono h3181.size)
                      have hhi189 := Nat.le_trans h3181.size (Nat.le_of_eq had184.out.symm)
                      refine hK.out _ _ (hS177.trans ((below_alloc (w := wd178) (Nat.le_refl wd178.heap.size) (.cells zero22 48)).mono hS177.size)) fun hS183 => ?_
                      clear hK
                      have hlo190 := Nat.le_trans hS177.size (Nat.le_of_eq had184.out.symm)
                      have hne : wd178.heap.size ≠ w5.heap.size := (Ne.symm hne186)
                      have HT := Lib.hid (HP5.out.told2 (valC (Value.slice U vv.l.length cu) vv) hS174 hbc179 hRc hUc h3188 HZ182.out HZ187.out hlo190 (.inr hhi189) hlo171 (.inl hlt176) hne)
                      have HUG := Lib.hid (show ∀ g, (Value.slice U vv.l.length cu).ownBlock = some g → w5.heap.size ≤ g ∧ g < (wd178.alloc (.cells zero22 48)).heap.size from fun g hg => ⟨Nat.le_trans hS174.size (hUc.2 g hg).1, Nat.lt_of_lt_of_le (hUc.2 g hg).2 h3188.size⟩)
                      refine wpAnyH_ready (rs := [13]) (by kernel_rfl) (by simp) ?_
                      refine AllReadyH.cons rfl (fun K hK => ?_) AllReadyH.nil
                      rw [if_pos (by kernel_rfl)]
                      refine wp_store_row 48 _ _ rfl (wd178.heap.size) f'.cells (by kernel_rfl) (by kernel_rfl) 48 _ HZ182.out pinfo rfl (PF.ones _) ?_
                      have HV2 := Lib.hid (show Blk ((wd178.alloc (.cells zero22 48)).setRow (wd178.heap.size) f'.cells) (w5.heap.size) 59 (valC (.slice none 0 0) SV.none) from (setRow_other _ _ _ _ (Ne.symm hne)).trans HZ187.out)
                      refine hK.out _ _ (below_setRow hS183 hlo190 _) fun hSe => ?_
                      clear hK
                      refine wpAnyH_ready (rs := [14]) (by kernel_rfl) (by simp) ?_
                      refine AllReadyH.cons rfl (fun K hK => ?_) AllReadyH.nil
                      rw [if_pos (by kernel_rfl)]
                      refine wp_store_row 59 _ _ rfl (w5.heap.size) (valC (Value.slice U vv.l.length cu) vv) (by kernel_rfl) (by kernel_rfl) 59 _ HV2.out v9info rfl (valC_ones _ _ _ _) ?_
                      refine hK.out _ _ HT.out.1.bel fun hSg => ?_
                      clear hK
                      refine wpAnyH_take (i := 15) (v := .bool dd) rfl (by kernel_rfl) (by kernel_rfl) (by kernel_rfl) (fun _ _ _ h => h) (Or.inl ⟨by kernel_rfl, fun w' _ => by kernel_rfl⟩) hSg ?_
                      refine wpAnyH_take (i := 16) (v := .int .i64 er) rfl (by kernel_rfl) (by kernel_rfl) (by kernel_rfl) (fun _ _ _ h => h) (Or.inl ⟨by kernel_rfl, fun w' _ => by kernel_rfl⟩) hSg ?_
                      refine wpAnyH_done (by kernel_rfl) ?_ _
                      go_simp
                      go_wp2
                      go_meet
                      obtain ⟨t1, t2, t3⟩ := HT.out
                      exact ⟨_, _, _, _, _, _, rfl, rfl, rfl, rfl, t1, t2, t3, hlo171, fun g hg => ⟨(HUG.out g hg).1, by simpa using (HUG.out g hg).2⟩, fun _ e => .inl e⟩
                    · go_simp
                      have had193 := Lib.hid (show wm172.heap.size = wm172.heap.size by first | rfl | simp)
                      have HZ191 := Lib.hid (show Blk (wm172.alloc (.cells zero22 48)) (wm172.heap.size) 48 zero22 from blk_new_at had193.out _ _)
                      have hlt194 : w5.heap.size < wm172.heap.size := HZ175.out.lt
                      have hne195 : w5.heap.size ≠ wm172.heap.size := by
                        have := had193.out
                        omega
                      have HZ196 := Lib.hid (HZ175.out.below (below_alloc (w := wm172) (Nat.le_refl wm172.heap.size) (.cells zero22 48)) HZ175.out.lt)
                      refine hK.out _ _ (hS174.trans ((below_alloc (w := wm172) (Nat.le_refl wm172.heap.size) (.cells zero22 48)).mono hS174.size)) fun hS192 => ?_
                      clear hK
                      have hlo197 := Nat.le_trans hS174.size (Nat.le_of_eq had193.out.symm)
                      refine wpAnyH_ready (rs := [5]) (by kernel_rfl) (by simp) ?_
                      refine AllReadyH.cons rfl (fun K hK => ?_) AllReadyH.nil
                      have hlt198 : w5.heap.size < (wm172.alloc (.cells zero22 48)).heap.size := HZ196.out.lt
                      have hlt199 : wm172.heap.size < (wm172.alloc (.cells zero22 48)).heap.size := HZ191.out.lt
                      go_simp
                      refine (HRS.out _ (HP5.out.go hS192).ri (fun k e => ((HP5.out.go hS192).yl k e).1)).mono ?_
                      rintro e wd201 ⟨f', u, rfl, hbc202, hRc, hUc⟩
                      obtain ⟨U, cu, rfl⟩ := hUc.1.form
                      have HZ203 := Lib.hid (HZ196.out.below hbc202 HZ196.out.lt)
                      have HZ204 := Lib.hid (HZ191.out.below hbc202 HZ191.out.lt)
                      have h3205 := Below.refl wd201.heap.size wd201
                      refine hK.out _ _ (hS192.trans (hbc202.mono hS192.size)) fun hS200 => ?_
                      clear hK
                      refine wpAnyH_take (i := 6) (v := .tuple #[PF.v f', .agg (valC (Value.slice U vv.l.length cu) vv), .bool dd, .int .i64 er]) rfl (by kernel_rfl) (by kernel_rfl) (by kernel_rfl) (fun _ _ _ h => h) (Or.inl ⟨by kernel_rfl, fun w' _ => by kernel_rfl⟩) hS200 ?_
                      refine wpAnyH_take (i := 8) (v := .agg (valC (Value.slice U vv.l.length cu) vv)) rfl (by kernel_rfl) (by kernel_rfl) (by kernel_rfl) (fun _ _ _ h => h) (Or.inl ⟨by kernel_rfl, fun w' _ => by kernel_rfl⟩) hS200 ?_
                      refine wpAnyH_take (i := 9) (v := .bool dd) rfl (by kernel_rfl) (by kernel_rfl) (by kernel_rfl) (fun _ _ _ h => h) (Or.inl ⟨by kernel_rfl, fun w' _ => by kernel_rfl⟩) hS200 ?_
                      refine wpAnyH_take (i := 10) (v := .int .i64 er) rfl (by kernel_rfl) (by kernel_rfl) (by kernel_rfl) (fun _ _ _ h => h) (Or.inl ⟨by kernel_rfl, fun w' _ => by kernel_rfl⟩) hS200 ?_
                      refine wpAnyH_ready (rs := [7]) (by kernel_rfl) (by simp) ?_
                      refine AllReadyH.cons rfl (fun K hK => ?_) AllReadyH.nil
                      go_simp
                      refine hK.out _ _ hS200 fun hS206 => ?_
                      clear hK
                      have hne : wm172.heap.size ≠ w5.heap.size := (Ne.symm hne195)
                      have HT := Lib.hid (HP5.out.told2 (valC (Value.slice U vv.l.length cu) vv) hS192 hbc202 hRc hUc h3205 HZ204.out HZ203.out hlo197 (.inl hlt199) hlo171 (.inl hlt198) hne)
                      have HUG := Lib.hid (show ∀ g, (Value.slice U vv.l.length cu).ownBlock = some g → w5.heap.size ≤ g ∧ g < wd201.heap.size from fun g hg => ⟨Nat.le_trans hS192.size (hUc.2 g hg).1, Nat.lt_of_lt_of_le (hUc.2 g hg).2 h3205.size⟩)
                      refine wpAnyH_ready (rs := [13]) (by kernel_rfl) (by simp) ?_
                      refine AllReadyH.cons rfl (fun K hK => ?_) AllReadyH.nil
                      rw [if_pos (by kernel_rfl)]
                      refine wp_store_row 48 _ _ rfl (wm172.heap.size) f'.cells (by kernel_rfl) (by kernel_rfl) 48 _ HZ204.out pinfo rfl (PF.ones _) ?_
                      have HV2 := Lib.hid (show Blk (wd201.setRow (wm172.heap.size) f'.cells) (w5.heap.size) 59 (valC (.slice none 0 0) SV.none) from (setRow_other _ _ _ _ (Ne.symm hne)).trans HZ203.out)
                      refine hK.out _ _ (below_setRow hS206 hlo197 _) fun hSe => ?_
                      clear hK
                      refine wpAnyH_ready (rs := [14]) (by kernel_rfl) (by simp) ?_
                      refine AllReadyH.cons rfl (fun K hK => ?_) AllReadyH.nil
                      rw [if_pos (by kernel_rfl)]
                      refine wp_store_row 59 _ _ rfl (w5.heap.size) (valC (Value.slice U vv.l.length cu) vv) (by kernel_rfl) (by kernel_rfl) 59 _ HV2.out v9info rfl (valC_ones _ _ _ _) ?_
                      refine hK.out _ _ HT.out.1.bel fun hSg => ?_
                      clear hK
                      refine wpAnyH_take (i := 15) (v := .bool dd) rfl (by kernel_rfl) (by kernel_rfl) (by kernel_rfl) (fun _ _ _ h => h) (Or.inl ⟨by kernel_rfl, fun w' _ => by kernel_rfl⟩) hSg ?_
                      refine wpAnyH_take (i := 16) (v := .int .i64 er) rfl (by kernel_rfl) (by kernel_rfl) (by kernel_rfl) (fun _ _ _ h => h) (Or.inl ⟨by kernel_rfl, fun w' _ => by kernel_rfl⟩) hSg ?_
                      refine wpAnyH_done (by kernel_rfl) ?_ _
                      go_simp
                      go_wp2
                      go_meet
                      obtain ⟨t1, t2, t3⟩ := HT.out
                      exact ⟨_, _, _, _, _, _, rfl, rfl, rfl, rfl, t1, t2, t3, hlo171, fun g hg => ⟨(HUG.out g hg).1, by simpa using (HUG.out g hg).2⟩, fun _ e => .inl e⟩
                  · go_simp
                    have had209 := Lib.hid (show w5.heap.size + 1 = (w5.drew.alloc (.cells (valC (.slice none 0 0) SV.none) 59)).heap.size by first | rfl | simp)
                    have HZ207 := Lib.hid (show Blk ((w5.drew.alloc (.cells (valC (.slice none 0 0) SV.none) 59)).alloc (.cells zero22 48)) (w5.heap.size + 1) 48 zero22 from blk_new_at had209.out _ _)
                    have hlt210 : w5.heap.size < (w5.drew.alloc (.cells (valC (.slice none 0 0) SV.none) 59)).heap.size := HZ168.out.lt
                    have hne211 : w5.heap.size ≠ w5.heap.size + 1 := by
                      have := had209.out
                      omega
                    have HZ212 := Lib.hid (HZ168.out.below (below_alloc (w := (w5.drew.alloc (.cells (valC (.slice none 0 0) SV.none) 59))) (Nat.le_refl (w5.drew.alloc (.cells (valC (.slice none 0 0) SV.none) 59)).heap.size) (.cells zero22 48)) HZ168.out.lt)
                    refine hK.out _ _ (hS169.trans ((below_alloc (w := (w5.drew.alloc (.cells (valC (.slice none 0 0) SV.none) 59))) (Nat.le_refl (w5.drew.alloc (.cells (valC (.slice none 0 0) SV.none) 59)).heap.size) (.cells zero22 48)).mono hS169.size)) fun hS208 => ?_
                    clear hK
                    have hlo213 := Nat.le_trans hS169.size (Nat.le_of_eq had209.out.symm)
                    refine wpAnyH_ready (rs := [2]) (by kernel_rfl) (by simp) ?_
                    refine AllReadyH.cons rfl (fun K hK => ?_) AllReadyH.nil
                    go_simp
                    refine (HKS.out _).mono ?_
                    rintro e wm214 ⟨rfl, hbm215⟩
                    have HZ217 := Lib.hid (HZ212.out.below hbm215 HZ212.out.lt)
                    have HZ218 := Lib.hid (HZ207.out.below hbm215 HZ207.out.lt)
                    refine hK.out _ _ (hS208.trans (hbm215.mono hS208.size)) fun hS216 => ?_
                    clear hK
                    refine wpAnyH_take (i := 3) (v := .bool bb) rfl (by kernel_rfl) (by kernel_rfl) (by kernel_rfl) (fun _ _ _ h => h) (Or.inl ⟨by kernel_rfl, fun w' _ => by rw [HBB.out]; go_simp⟩) hS216 ?_
                    refine wpAnyH_ready (rs := [5]) (by kernel_rfl) (by simp) ?_
                    refine AllReadyH.cons rfl (fun K hK => ?_) AllReadyH.nil
                    have hlt219 : w5.heap.size < wm214.heap.size := HZ217.out.lt
                    have hlt220 : w5.heap.size + 1 < wm214.heap.size := HZ218.out.lt
                    go_simp
                    refine (HRS.out _ (HP5.out.go hS216).ri (fun k e => ((HP5.out.go hS216).yl k e).1)).mono ?_
                    rintro e wd222 ⟨f', u, rfl, hbc223, hRc, hUc⟩
                    obtain ⟨U, cu, rfl⟩ := hUc.1.form
                    have HZ224 := Lib.hid (HZ217.out.below hbc223 HZ217.out.lt)
                    have HZ225 := Lib.hid (HZ218.out.below hbc223 HZ218.out.lt)
                    have h3226 := Below.refl wd222.heap.size wd222
                    refine hK.out _ _ (hS216.trans (hbc223.mono hS216.size)) fun hS221 => ?_
                    clear hK
                    refine wpAnyH_take (i := 6) (v := .tuple #[PF.v f', .agg (valC (Value.slice U vv.l.length cu) vv), .bool dd, .int .i64 er]) rfl (by kernel_rfl) (by kernel_rfl) (by kernel_rfl) (fun _ _ _ h => h) (Or.inl ⟨by kernel_rfl, fun w' _ => by kernel_rfl⟩) hS221 ?_
                    refine wpAnyH_take (i := 8) (v := .agg (valC (Value.slice U vv.l.length cu) vv)) rfl (by kernel_rfl) (by kernel_rfl) (by kernel_rfl) (fun _ _ _ h => h) (Or.inl ⟨by kernel_rfl, fun w' _ => by kernel_rfl⟩) hS221 ?_
                    refine wpAnyH_take (i := 9) (v := .bool dd) rfl (by kernel_rfl) (by kernel_rfl) (by kernel_rfl) (fun _ _ _ h => h) (Or.inl ⟨by kernel_rfl, fun w' _ => by kernel_rfl⟩) hS221 ?_
                    refine wpAnyH_take (i := 10) (v := .int .i64 er) rfl (by kernel_rfl) (by kernel_rfl) (by kernel_rfl) (fun _ _ _ h => h) (Or.inl ⟨by kernel_rfl, fun w' _ => by kernel_rfl⟩) hS221 ?_
                    refine wpAnyH_ready (rs := [7]) (by kernel_rfl) (by simp) ?_
                    refine AllReadyH.cons rfl (fun K hK => ?_) AllReadyH.nil
                    go_simp
                    refine hK.out _ _ hS221 fun hS227 => ?_
                    clear hK
                    have hne : w5.heap.size + 1 ≠ w5.heap.size := (Ne.symm hne211)
                    have HT := Lib.hid (HP5.out.told2 (valC (Value.slice U vv.l.length cu) vv) hS216 hbc223 hRc hUc h3226 HZ225.out HZ224.out hlo213 (.inl hlt220) hlo171 (.inl hlt219) hne)
                    have HUG := Lib.hid (show ∀ g, (Value.slice U vv.l.length cu).ownBlock = some g → w5.heap.size ≤ g ∧ g < wd222.heap.size from fun g hg => ⟨Nat.le_trans hS216.size (hUc.2 g hg).1, Nat.lt_of_lt_of_le (hUc.2 g hg).2 h3226.size⟩)
                    refine wpAnyH_ready (rs := [13]) (by kernel_rfl) (by simp) ?_
                    refine AllReadyH.cons rfl (fun K hK => ?_) AllReadyH.nil
                    rw [if_pos (by kernel_rfl)]
                    refine wp_store_row 48 _ _ rfl (w5.heap.size + 1) f'.cells (by kernel_rfl) (by kernel_rfl) 48 _ HZ225.out pinfo rfl (PF.ones _) ?_
                    have HV2 := Lib.hid (show Blk (wd222.setRow (w5.heap.size + 1) f'.cells) (w5.heap.size) 59 (valC (.slice none 0 0) SV.none) from (setRow_other _ _ _ _ (Ne.symm hne)).trans HZ224.out)
                    refine hK.out _ _ (below_setRow hS227 hlo213 _) fun hSe => ?_
                    clear hK
                    refine wpAnyH_ready (rs := [14]) (by kernel_rfl) (by simp) ?_
                    refine AllReadyH.cons rfl (fun K hK => ?_) AllReadyH.nil
                    rw [if_pos (by kernel_rfl)]
                    refine wp_store_row 59 _ _ rfl (w5.heap.size) (valC (Value.slice U vv.l.length cu) vv) (by kernel_rfl) (by kernel_rfl) 59 _ HV2.out v9info rfl (valC_ones _ _ _ _) ?_
                    refine hK.out _ _ HT.out.1.bel fun hSg => ?_
                    clear hK
                    refine wpAnyH_take (i := 15) (v := .bool dd) rfl (by kernel_rfl) (by kernel_rfl) (by kernel_rfl) (fun _ _ _ h => h) (Or.inl ⟨by kernel_rfl, fun w' _ => by kernel_rfl⟩) hSg ?_
                    refine wpAnyH_take (i := 16) (v := .int .i64 er) rfl (by kernel_rfl) (by kernel_rfl) (by kernel_rfl) (fun _ _ _ h => h) (Or.inl ⟨by kernel_rfl, fun w' _ => by kernel_rfl⟩) hSg ?_
                    refine wpAnyH_done (by kernel_rfl) ?_ _
                    go_simp
                    go_wp2
                    go_meet
                    obtain ⟨t1, t2, t3⟩ := HT.out
                    exact ⟨_, _, _, _, _, _, rfl, rfl, rfl, rfl, t1, t2, t3, hlo171, fun g hg => ⟨(HUG.out g hg).1, by simpa using (HUG.out g hg).2⟩, fun _ e => .inl e⟩
              case rest =>
                obtain ⟨z', zv, Y6, f', U, cu, rfl, rfl, rfl, rfl, hT, hvb, hui, hgv, hug, hYY⟩ := hcut
                have hzY6 := hYY z hzY
                have hxw5 := HP5.out.k.lt
                have hVB6 : Blk (wc.setRow x f'.cells) zv 59 (valC (Value.slice U vv.l.length cu) vv) := hvb.of (setRow_other _ _ _ _ (by omega))
                have hUI6 : IntsIn (wc.setRow x f'.cells) (Value.slice U vv.l.length cu) vv.l := words_onl hui (S := fun k => k = x) (fun g hg e => by have := (hug g hg).1; omega) ⟨rfl, rfl, rfl, by simp, fun k _ hn => setRow_other _ _ _ _ hn⟩
                have hG := hT.patG HP5.out
                have hvl := hvb.lt
                have HIN := Lib.hid (PA.incl (pb := pb) (x := x) hT.yl)
                have hpl := HP5.out.pbl
                have hzvp : zv ≠ pb := by omega
                have HU := Lib.hid (show ∀ g, (Value.slice U vv.l.length cu).ownBlock = some g → newX (lawY pb x Y) w5 wc g ∧ g ≠ pb from fun g hg => ⟨.inr (hug g hg), by have := (hug g hg).1; omega⟩)
                have hZ6 : Blk (wc.setRow x f'.cells) z 53 #[.int .i64 (K1 k), .int .i64 (N1 k), .slice A' n' c'] :=
                  (HZ.out.below hT.bel HZ.out.lt).of (setRow_other _ _ _ _ (Ne.symm (Nat.ne_of_lt hxz)))
                have d0 : (wc.setRow x f'.cells).cell? ⟨z, 0, none⟩ = some (.int .i64 (K1 k)) := (hZ6.cell 0).trans rfl
                have d1 : (wc.setRow x f'.cells).cell? ⟨z, 1, none⟩ = some (.int .i64 (N1 k)) := (hZ6.cell 1).trans rfl
                have d2 : (wc.setRow x f'.cells).cell? ⟨z, 2, none⟩ = some (.slice A' n' c') := (hZ6.cell 2).trans rfl
                have HZ6 := Lib.hid hZ6
                have HT := Lib.hid hT
                have HKX := Lib.hid (HP5.out.k.below hT.bel HP5.out.k.lt)
                have HP6 := Lib.hid (hT.pat HP5.out)
                have HVB6 := Lib.hid hVB6
                have HUI6 := Lib.hid hUI6
                obtain ⟨V, hV, hC⟩ := hG
                have HV := Lib.hid hV
                have HC6 := Lib.hid hC
                clear hT hZ6 hYY c0 c1 c2 hVB6 hUI6 hV hC hvb hui hug HRS
                go_wp2_with (first
                  | (refine wpList_load_row rfl 48 _ rfl z' rfl 48 _ (0, 0) _ HT.out.z Tryd.underlying48 rfl pinfo ?_)
                  | (refine wpList_store_row rfl 48 _ _ rfl x _ rfl rfl 48 f.cells HKX.out pinfo rfl (PF.ones _) ?_))
                refine (HKS.out _).mono ?_
                rintro e w7 ⟨rfl, hb7⟩
                have HP7 := Lib.hid (HP6.out.go hb7)
                have HZ7 := Lib.hid (HZ6.out.below hb7 HZ6.out.lt)
                have HVB7 := Lib.hid (HVB6.out.below hb7 HVB6.out.lt)
                have HUI7 := Lib.hid (HUI6.out.below hb7)
                have hC7 := HC6.out.below hb7
                have HO := Lib.hid (show Calls Tryd.prog 11 #[.pointer (some ⟨pb, 0, none⟩), .bool bb, .int .i64 now] w7 fun e w' => ∃ u2, e = .returned (.tuple #[.agg (valC u2 vv), .bool dd, .int .i64 er]) ∧ (PCtx V w' pb kb b mb lb (fun k => newX (lawY pb x Y) w5 wc k ∨ u2.ownBlock = some k) (p.stp bb) ∧ PKept pb (newX (lawY pb x Y) w5 wc) w7 w') ∧ WordsAt w7.heap.size w' u2 vv from by
                  rw [HQ.out.1, HQ.out.2.1, HQ.out.2.2]; exact sctx_step hC7 bb now)
                have hbd : decide (kd < (5 : Int)) = bb := HBB.out.symm
                clear hb7 hC7 HP6 HT HKX d0 d1 d2 HKS HZ6 HVB6 HUI6 HC6 HP5
                go_wp2_with fail
                refine HO.out.mono ?_
                rintro e w8 ⟨u2, rfl, ⟨hC8, hK8⟩, hW8⟩
                obtain ⟨U2, c2, rfl⟩ := hW8.1.form
                have HP8 := Lib.hid (HP7.out.ring HV.out (hC8.less (fun k e => .inl (HIN.out k e)) (.inl rfl)) (fun k e ne => hK8 k (HIN.out k e) ne))
                have hba : Below w8.heap.size w8 ((w8.alloc (.cells (valC (.slice none 0 0) SV.none) 32)).setRow w8.heap.size (valC (.slice U2 vv.l.length c2) vv)) := below_setRow (below_alloc (w := w8) (Nat.le_refl w8.heap.size) _) (Nat.le_refl _) _
                have hvb8 := HVB7.out.of (hK8 zv (.inr ⟨hgv, hvl⟩) hzvp)
                have HVB9 := Lib.hid (hvb8.below hba hvb8.lt)
                have HUI9 := Lib.hid ((ints_keepB HUI7.out (fun g hg => hK8 g (HU.out g hg).1 (HU.out g hg).2)).below hba)
                have HW9 := Lib.hid (hW8.1.below hba)
                have HZ8 := Lib.hid (HZ7.out.of (hK8 z (.inl (.inr (.inr hzY))) hzp))
                have HB9 := Lib.hid hba
                have HK9 := Lib.hid (show Blk ((w8.alloc (.cells (valC (.slice none 0 0) SV.none) 32)).setRow w8.heap.size (valC (.slice U2 vv.l.length c2) vv)) w8.heap.size 32 (valC (.slice U2 vv.l.length c2) vv) from setRow_heap _ _ (valC (.slice none 0 0) SV.none) _ 32 (0, 0) (heap_alloc_new w8 _))
                have HL := Lib.hid (like_any HW9.out HUI9.out HLK.out)
                clear hC8 hK8 hW8 hba hvb8 HO HP7 HVB7 HUI7 HZ7 HU HIN
                go_wp2_with (first
                  | (refine wpList_load_row rfl 59 _ rfl zv rfl 59 _ (0, 0) _ HVB9.out Tryd.underlying59 rfl v9info ?_)
                  | (refine wpList_load_row rfl 32 _ rfl w8.heap.size rfl 32 _ (0, 0) _ HK9.out Tryd.underlying32 rfl vinfo ?_)
                  | (refine wpList_store_row rfl 32 _ _ rfl w8.heap.size (valC (.slice U2 vv.l.length c2) vv) rfl rfl 32 (valC (.slice none 0 0) SV.none) (heap_alloc_new w8 _) vinfo rfl (valC_ones _ _ _ _) ?_))
                refine HL.out.mono ?_
                rintro e w10 ⟨rfl, hb10⟩
                have HP10 := Lib.hid ((HP8.out.go HB9.out).go hb10)
                have HZ10 := Lib.hid ((HZ8.out.below HB9.out HZ8.out.lt).below hb10 (Nat.lt_of_lt_of_le HZ8.out.lt HB9.out.size))
                clear hb10 HL HP8 HZ8 HB9 HVB9 HK9
                go_wp2_with fail
                go_meet
                exact ⟨by simp, _, _, _, HP10.out, HZ10.out⟩
        · as_aux_lemma =>
            obtain ⟨dd, hdd⟩ : ∃ dd, dd = decide (0 < p.s.left ((N1 k).tmod 2 == 0)) := ⟨_, rfl⟩
            have HC1 := Lib.hid (pdrop_any HP5.out.ri (fun k e => (HP5.out.yl k e).1) ((N1 k).tmod 2 == 0))
            rw [← hdd] at HC1
            have HDD := Lib.hid hdd
            clear hdd
            go_wp2_with (refine wpList_load_row rfl 48 _ rfl x rfl 48 _ (0, 0) _ HP5.out.k Tryd.underlying48 rfl pinfo ?_)
            refine (HC1.out).mono ?_
            rintro e w6 ⟨f', rfl, hb6, hR6⟩
            have hT := HP5.out.told (Below.refl _ w5) hb6 hR6 (below_alloc (Nat.le_refl w6.heap.size) (.cells zero22 48)) (heap_alloc_new w6 (.cells zero22 48)) hb6.size (.inr (Nat.le_refl _))
            have HT := Lib.hid hT
            have HKX := Lib.hid (HP5.out.k.below hT.bel HP5.out.k.lt)
            have HP6 := Lib.hid (hT.pat HP5.out)
            have hZ6 : Blk (((w6.alloc (.cells zero22 48)).setRow w6.heap.size f'.cells).setRow x f'.cells) z 53 #[.int .i64 (K1 k), .int .i64 (N1 k), .slice A' n' c'] := (HZ.out.below hT.bel HZ.out.lt).of (setRow_other _ _ _ _ (Ne.symm (Nat.ne_of_lt hxz)))
            have HZ6 := Lib.hid hZ6
            have d1 : (((w6.alloc (.cells zero22 48)).setRow w6.heap.size f'.cells).setRow x f'.cells).cell? ⟨z, 1, none⟩ = some (.int .i64 (N1 k)) := (hZ6.cell 1).trans rfl
            simp only [zero22] at d1
            clear hT hb6 hR6 hZ6
            go_wp2_with (first
              | (refine wpList_load_row rfl 48 _ rfl w6.heap.size rfl 48 _ (0, 0) _ HT.out.z Tryd.underlying48 rfl pinfo ?_)
              | (refine wpList_store_row rfl 48 _ _ rfl w6.heap.size _ rfl rfl 48 zero22 (heap_alloc_new w6 _) pinfo rfl (PF.ones _) ?_)
              | (refine wpList_store_row rfl 48 _ _ rfl x _ rfl rfl 48 f.cells HKX.out pinfo rfl (PF.ones _) ?_))
            obtain ⟨V, hV, hC⟩ := HP6.out.c
            have HV := Lib.hid hV
            have HO := Lib.hid (sctx_drop hC ((N1 k).tmod 2 == 0))
            clear hV hC
            rw [← HDD.out] at HO
            refine HO.out.mono ?_
            rintro e w7 ⟨rfl, hC7, hK7⟩
            have HP7 := Lib.hid (HP6.out.ring HV.out hC7 hK7)
            have HZ7 := Lib.hid (HZ6.out.of (hK7 z (.inr (.inr (.inl hzY))) hzp))
            clear hC7 hK7 HO HP6 HT HKX HP5 HZ6 d1
            go_wp2_with fail
            go_meet
            exact ⟨by simp, _, _, _, HP7.out, HZ7.out⟩
      case rest =>
        obtain ⟨rfl, Y2, f2, p2, hP2, hZ2⟩ := hcut
        have HP := Lib.hid hP2
        have HZ2 := Lib.hid hZ2
        have k_n : wc.cell? ⟨z, 1, none⟩ = some (.int .i64 (N1 k)) := (hZ2.cell 1).trans rfl
        obtain ⟨nv, hnv, n0, n3⟩ := nseq (N1 k)
        clear hP2 hZ2 HWS HKS HONE HZ HP5
        go_wp2_with fail
        rw [hnv]
        refine (radd_any now nv _).mono ?_
        rintro e w9 ⟨rfl, rfl⟩
        generalize addI now nv = now2 at *
        clear hnv n0 n3 k_n
        go_upto_region 35 with (fail)
        go_cut [159] (fun v wx => v = .bool false ∧ PA w wx pb kb b mb lb x Y2 f2 p2 p2)
        case first =>
          have q2 : ∀ w', Below wc.heap.size wc w' → w'.cell? ⟨x, 2, none⟩ = some (.int .i64 p2.q) := fun w' h => ((HP.out.go h).k.cell 2).trans (by rw [← (HP.out.go h).ri.se]; rfl)
          have HSQ := Lib.hid (show ∀ w', Below wc.heap.size wc w' → Calls Tryd.prog 26 #[.pointer (some ⟨pb, 0, none⟩)] w' fun e w'' => e = .returned (.int .i64 p2.q) ∧ w' = w'' from fun w' h => by
            obtain ⟨V, -, hC⟩ := (HP.out.go h).c
            exact sctx_seq hC)
          generalize p2.q = qq at *
          go_wp2_with fail
          refine wp_region_held_drew (S := fun w' => Below wc.heap.size wc w') rfl (Below.refl _ wc).drew fun hS => ?_
          refine wpAnyH_take (i := 0) (v := .bool true) rfl (by kernel_rfl) (by kernel_rfl) (by kernel_rfl) (fun _ _ _ h => h) (Or.inl ⟨by kernel_rfl, fun w' _ => by kernel_rfl⟩) hS ?_
          refine wpAnyH_take (i := 1) (v := .bool false) rfl (by kernel_rfl) (by kernel_rfl) (by kernel_rfl) (fun _ _ _ h => h) (Or.inl ⟨by kernel_rfl, fun w' _ => by go_simp⟩) hS ?_
          refine wpAnyH_take (i := 2) (v := .bool false) rfl (by kernel_rfl) (by kernel_rfl) (by kernel_rfl) (fun _ _ _ h => h) (Or.inl ⟨by kernel_rfl, fun w' _ => by go_simp⟩) hS ?_
          refine wpAnyH_take (i := 3) (v := .pointer (some ⟨pb, 0, none⟩)) rfl (by kernel_rfl) (by kernel_rfl) (by kernel_rfl) (fun _ _ _ h => h) (Or.inl ⟨by kernel_rfl, fun w' _ => by kernel_rfl⟩) hS ?_
          refine wpAnyH_take (i := 5) (v := .pointer (some ⟨x, 2, none⟩)) rfl (by kernel_rfl) (by kernel_rfl) (by kernel_rfl) (fun _ _ _ h => h) (Or.inl ⟨by kernel_rfl, fun w' _ => by kernel_rfl⟩) hS ?_
          refine wpAnyH_take (i := 6) (v := .int .i64 qq) rfl (by kernel_rfl) (by kernel_rfl) (by kernel_rfl) (fun _ _ _ h => h) (Or.inl ⟨by kernel_rfl, fun w' hS' => by have q := q2 w' hS'; go_simp⟩) hS ?_
          refine wpAnyH_ready (rs := [4]) (by kernel_rfl) (by simp) ?_
          refine AllReadyH.cons rfl (fun K hK => ?_) AllReadyH.nil
          go_simp
          refine (HSQ.out _ hS).mono ?_
          rintro e _w ⟨rfl, rfl⟩
          refine hK.out _ _ hS fun hS1 => ?_
          clear hK
          refine wpAnyH_take (i := 7) (v := .bool false) rfl (by kernel_rfl) (by kernel_rfl) (by kernel_rfl) (fun _ _ _ h => h) (Or.inl ⟨by kernel_rfl, fun w' _ => by go_simp⟩) hS1 ?_
          refine wpAnyH_take (i := 8) (v := .bool false) rfl (by kernel_rfl) (by kernel_rfl) (by kernel_rfl) (fun _ _ _ h => h) (Or.inl ⟨by kernel_rfl, fun w' _ => by go_simp⟩) hS1 ?_
          refine wpAnyH_done (by kernel_rfl) ?_ _
          go_simp
          go_wp2
          go_meet
          exact ⟨rfl, HP.out.go hS1⟩
        case rest =>
          obtain ⟨rfl, hP3⟩ := hcut
          have HP3 := Lib.hid hP3
          clear hP3 HP HZ2
          go_wp2_with fail
          go_roundw
          case rel => exact ⟨k + 1, Y2, f2, p2, now2, by omega, rfl, by go_num, HP3.out⟩
          case measure => simp [intOf]; omega
    · obtain rfl : k = e1 := by omega
      have b1' : ¬ (k : Int) < (k : Int) := by omega
      have HB := Lib.hid HP.out.bel
      clear HP
      go_wp2
      go_ret
      exact ⟨rfl, HB.out⟩
end Go.Proofs.YtmcelldklmjlkaaDoor
