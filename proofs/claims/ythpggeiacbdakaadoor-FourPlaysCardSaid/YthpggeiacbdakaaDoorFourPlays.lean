/- FourPlays: what a register answers is what the reference says: the walk. -/
import Derived.Test.YthpggeiacbdakaaDoorFrefQ
import Derived.Test.YthpggeiacbdakaaDoorSteps6
namespace Go.Proofs.YthpggeiacbdakaaDoor
open Go.RowKit

set_option maxRecDepth 100000 in
set_option maxHeartbeats 25600000 in
theorem fourPlays_law (n0 : Int) (A1 : Option Addr) (len1 cap1 bs1 off1 : Nat) (K1 N1 : Nat → Int) (V1 : Nat → Value) (L1 : Nat → List Int) (w : World)
    (hS1 : StepsIn w A1 len1 bs1 off1 K1 N1 V1 L1) (hlc1 : len1 ≤ cap1) (_ : cap1 ≤ maxLen) :
    Calls Tryd.prog 6 #[.int .i64 n0, .slice A1 len1 cap1] w fun e w' => e = .returned (.bool true) ∧ Below w.heap.size w w' := by
  have HE1 := Lib.hid (fun w => early_any A1 len1 cap1 w hlc1)
  have hS1' := hS1.cut (min len1 150) (by omega)
  have hm1 : min len1 150 ≤ cap1 := by omega
  have hx1 : min len1 150 ≤ 150 := by omega
  clear hS1 hlc1
  generalize min len1 150 = e1 at *
  have HS1 := Lib.hid hS1'
  clear hS1'
  go_enter Tryd.func6, Tryd.ntmps6
  go_wp2_with fail
  refine (lives_any w).mono ?_
  rintro e w1 ⟨rfl, hB1⟩
  go_wp2_with fail
  refine (ctx_new n0 hB1).mono ?_
  rintro e w2 ⟨b, mb, lb, rfl, hB2, hC⟩
  have HC := Lib.hid hC
  have HB2 := Lib.hid (And.intro hB1 hB2)
  clear hB1 hB2 hC
  go_wp2_with fail
  refine (refnew_any n0 w2).mono ?_
  rintro e w3 ⟨r0, rfl, hb3, hR3⟩
  have HP := Lib.hid (pat_new (HB2.out.1.trans (HB2.out.2.mono HB2.out.1.size)) HC.out hb3 hR3)
  clear hb3 hR3 HC HB2
  go_wp2_with (refine wpList_store_row rfl 50 _ _ rfl w3.heap.size _ rfl rfl 50 zero19 (heap_alloc_new w3 _) rinfo rfl (RF.ones _) ?_)
  refine (HE1.out _).mono ?_
  rintro e w4 ⟨rfl, rfl⟩
  clear HE1
  go_wp2_with fail
  change Code.wp _ _ _ _ ((w3.alloc (.cells zero19 50)).setRow w3.heap.size r0.cells)
  have HPQ := Lib.hid (show (FS.new (wordsOf n0)).W = wordsOf n0 from rfl)
  obtain ⟨Y0, HP⟩ : ∃ Y0, Hid (PAt w ((w3.alloc (.cells zero19 50)).setRow w3.heap.size r0.cells) b mb lb w3.heap.size Y0 r0 (FS.new (wordsOf n0)) (FS.new (wordsOf n0))) := ⟨_, HP⟩
  generalize (w3.alloc (.cells zero19 50)).setRow w3.heap.size r0.cells = wL at *
  generalize (FS.new (wordsOf n0)) = s0 at *
  generalize w3.heap.size = x at *
  go_loopw [7] (fun i wx => ∃ (k : Nat) (Y : Nat → Prop) (r : RF) (s : FS), k ≤ e1 ∧ i = .int .i64 k ∧ PAt w wx b mb lb x Y r s s ∧ s.W = wordsOf n0) (fun i _ => e1 - (intOf i).toNat)
  case atStart => exact ⟨0, Y0, r0, s0, Nat.zero_le _, rfl, HP.out, HPQ.out⟩
  case round =>
    clear HP HPQ
    obtain ⟨k, Y, r, s, hk, rfl, hP, hsW⟩ := hrel
    have HP := Lib.hid hP
    have HS := Lib.hid hsW
    clear hP hsW
    by_cases hlt : k < e1
    · obtain rfl : A1 = some ⟨bs1, off1, none⟩ := HS1.out.at_.resolve_right (by omega)
      obtain ⟨A', n', c', l8, hcl, hl8, hone⟩ := HS1.out.one k hlt
      have HONE := Lib.hid hone
      obtain ⟨q0, q1, q2, -⟩ := hone _ HP.out.c.bel
      have b1' : (k : Int) < (e1 : Int) := by omega
      have b0 : (0 : Int) ≤ (k : Int) := by omega
      have HWS := Lib.hid (fun w' => words_step (K1 k) (N1 k) A' n' c' w' hcl)
      have HKS := Lib.hid (fun w' => kind_step (K1 k) (N1 k) (.slice A' n' c') w')
      have hkd := kindOf_bd (K1 k)
      clear hone
      generalize min n' 8 = n8 at *
      generalize kindOf (K1 k) = kd at *
      go_wp2_with fail
      refine (HKS.out _).mono ?_
      rintro e w5 ⟨rfl, hb⟩
      have hz := Blk.new wr 54 #[.int .i64 (K1 k), .int .i64 (N1 k), .slice A' n' c']
      have hba : Below wr.heap.size wr (wr.alloc (.cells #[.int .i64 (K1 k), .int .i64 (N1 k), .slice A' n' c'] 54)) := below_alloc (Nat.le_refl _) _
      have HZ := Lib.hid (hz.below hb hz.lt)
      have HP5 := Lib.hid ((HP.out.go hba).go hb)
      have hxz : x < wr.heap.size := HP.out.k.lt
      have hz5 : wr.heap.size < w5.heap.size := HZ.out.lt
      clear hb hz hba HP q0 q1 q2
      generalize wr.heap.size = z at *
      have c0 : w5.cell? ⟨z, 0, none⟩ = some (.int .i64 (K1 k)) := (HZ.out.cell 0).trans rfl
      have c1 : w5.cell? ⟨z, 1, none⟩ = some (.int .i64 (N1 k)) := (HZ.out.cell 1).trans rfl
      have c2 : w5.cell? ⟨z, 2, none⟩ = some (.slice A' n' c') := (HZ.out.cell 2).trans rfl
      go_upto_block 2 with (fail)
      go_cut [9] (fun v wx => v = .bool true ∧ ∃ Y r s, PAt w wx b mb lb x Y r s s ∧ s.W = wordsOf n0)
      case first =>
        rcases (show kd = 0 ∨ kd = 1 ∨ (2 ≤ kd ∧ kd ≤ 6) ∨ kd = 7 by omega) with rfl | rfl | hkm | rfl
        · as_aux_lemma =>
            go_upto_region 12 with (fail)
            go_cut [10, 11] (fun p f wx => ∃ (z' : Nat) (Y6 : Nat → Prop) (r' : RF), p = .pointer (some ⟨z', 0, none⟩) ∧ f = .int .i64 (s.wr l8).2 ∧ Told w5 wx x z' Y Y6 r' (s.wr l8).1)
            case first =>
              go_wp2_with fail
              refine wp_region_held_drew (S := fun w' => Below w5.heap.size w5 w') rfl (Below.refl _ w5).drew fun hS => ?_
              refine wpAnyH_take (i := 0) (v := .agg r.cells) rfl (by kernel_rfl) (by kernel_rfl) (by kernel_rfl) (fun _ _ _ h => h) (Or.inl ⟨by kernel_rfl, fun w' hS' => yields_row 50 _ rfl x rfl (HP5.out.k.below hS' HP5.out.k.lt) Tryd.underlying50 rfl rinfo⟩) hS ?_
              refine wpAnyH_take (i := 1) (v := .agg #[.int .i64 (K1 k), .int .i64 (N1 k), .slice A' n' c']) rfl (by kernel_rfl) (by kernel_rfl) (by kernel_rfl) (fun _ _ _ h => h) (Or.inl ⟨by kernel_rfl, fun w' hS' => yields_row 54 _ rfl z rfl (HZ.out.below hS' HZ.out.lt) Tryd.underlying54 rfl (by kernel_rfl)⟩) hS ?_
              refine wpAnyH_ready (rs := [2, 7]) (by kernel_rfl) (by simp) ?_
              refine AllReadyH.cons rfl (fun K hK => ?_) (AllReadyH.cons rfl (fun K hK => ?_) AllReadyH.nil)
              · go_simp
                refine (HWS.out _).mono ?_
                rintro e wm ⟨rfl, hbm⟩
                refine hK.out _ _ (hS.trans (hbm.mono hS.size)) fun hSm => ?_
                clear hK hbm
                refine wpAnyH_ready (rs := [3, 7]) (by kernel_rfl) (by simp) ?_
                refine AllReadyH.cons rfl (fun K hK => ?_) (AllReadyH.cons rfl (fun K hK => ?_) AllReadyH.nil)
                · go_simp
                  obtain ⟨-, -, -, hI8⟩ := HONE.out _ (HP5.out.go hSm).c.bel
                  refine (refwrite_any (HP5.out.go hSm).ri HP5.out.c.ok hI8 (by omega)).mono ?_
                  rintro e wc ⟨r', rfl, hbc, hRc⟩
                  refine hK.out _ _ (hSm.trans (hbc.mono hSm.size)) fun hSc => ?_
                  clear hK
                  refine wpAnyH_take (i := 4) (v := .tuple #[RF.v r', .int .i64 (s.wr l8).2]) rfl (by kernel_rfl) (by kernel_rfl) (by kernel_rfl) (fun _ _ _ h => h) (Or.inl ⟨by kernel_rfl, fun w' _ => by kernel_rfl⟩) hSc ?_
                  refine wpAnyH_take (i := 5) (v := RF.v r') rfl (by kernel_rfl) (by kernel_rfl) (by kernel_rfl) (fun _ _ _ h => h) (Or.inl ⟨by kernel_rfl, fun w' _ => by kernel_rfl⟩) hSc ?_
                  refine wpAnyH_take (i := 6) (v := .int .i64 (s.wr l8).2) rfl (by kernel_rfl) (by kernel_rfl) (by kernel_rfl) (fun _ _ _ h => h) (Or.inl ⟨by kernel_rfl, fun w' _ => by kernel_rfl⟩) hSc ?_
                  refine wpAnyH_ready (rs := [7]) (by kernel_rfl) (by simp) ?_
                  refine AllReadyH.cons rfl (fun K hK => ?_) AllReadyH.nil
                  go_simp
                  have hba := below_alloc (w := wc) (Nat.le_refl wc.heap.size) (.cells zero19 50)
                  have HT := Lib.hid (HP5.out.told hSm hbc hRc hba (heap_alloc_new wc (.cells zero19 50)) hSc.size (.inr (Nat.le_refl _)))
                  have HZC := Lib.hid (show Blk (wc.alloc (.cells zero19 50)) wc.heap.size 50 zero19 from heap_alloc_new wc _)
                  refine hK.out _ _ (hSc.trans (hba.mono hSc.size)) fun hSd => ?_
                  clear hK
                  refine wpAnyH_ready (rs := [8]) (by kernel_rfl) (by simp) ?_
                  refine AllReadyH.cons rfl (fun K hK => ?_) AllReadyH.nil
                  rw [if_pos (by kernel_rfl)]
                  refine wp_store_row 50 _ _ rfl (wc.heap.size) r'.cells (by kernel_rfl) (by kernel_rfl) 50 _ HZC.out rinfo rfl (RF.ones _) ?_
                  refine hK.out _ _ HT.out.bel fun hSe => ?_
                  clear hK
                  refine wpAnyH_take (i := 9) (v := .int .i64 (s.wr l8).2) rfl (by kernel_rfl) (by kernel_rfl) (by kernel_rfl) (fun _ _ _ h => h) (Or.inl ⟨by kernel_rfl, fun w' _ => by kernel_rfl⟩) hSe ?_
                  refine wpAnyH_done (by kernel_rfl) ?_ _
                  go_simp
                  go_wp2
                  go_meet
                  exact ⟨_, _, _, rfl, rfl, HT.out⟩
                · go_simp
                  have HZV := Lib.hid (show Blk (wm.alloc (.cells zero19 50)) wm.heap.size 50 zero19 from heap_alloc_new wm _)
                  refine hK.out _ _ (hSm.trans (below_alloc hSm.size (.cells zero19 50))) fun hSa => ?_
                  clear hK
                  refine wpAnyH_ready (rs := [3]) (by kernel_rfl) (by simp) ?_
                  refine AllReadyH.cons rfl (fun K hK => ?_) AllReadyH.nil
                  go_simp
                  obtain ⟨-, -, -, hI8⟩ := HONE.out _ (HP5.out.go hSa).c.bel
                  refine (refwrite_any (HP5.out.go hSa).ri HP5.out.c.ok hI8 (by omega)).mono ?_
                  rintro e wc ⟨r', rfl, hbc, hRc⟩
                  refine hK.out _ _ (hSa.trans (hbc.mono hSa.size)) fun hSc => ?_
                  clear hK
                  have hzc := HZV.out.below hbc HZV.out.lt
                  have HT := Lib.hid (HP5.out.told hSa hbc hRc (Below.refl _ wc) hzc hSm.size (.inl (by simp)))
                  have HZC := Lib.hid hzc
                  clear hzc
                  refine wpAnyH_take (i := 4) (v := .tuple #[RF.v r', .int .i64 (s.wr l8).2]) rfl (by kernel_rfl) (by kernel_rfl) (by kernel_rfl) (fun _ _ _ h => h) (Or.inl ⟨by kernel_rfl, fun w' _ => by kernel_rfl⟩) hSc ?_
                  refine wpAnyH_take (i := 6) (v := .int .i64 (s.wr l8).2) rfl (by kernel_rfl) (by kernel_rfl) (by kernel_rfl) (fun _ _ _ h => h) (Or.inl ⟨by kernel_rfl, fun w' _ => by kernel_rfl⟩) hSc ?_
                  refine wpAnyH_ready (rs := [5]) (by kernel_rfl) (by simp) ?_
                  refine AllReadyH.cons rfl (fun K hK => ?_) AllReadyH.nil
                  go_simp
                  refine hK.out _ _ hSc fun hSf => ?_
                  clear hK
                  refine wpAnyH_ready (rs := [8]) (by kernel_rfl) (by simp) ?_
                  refine AllReadyH.cons rfl (fun K hK => ?_) AllReadyH.nil
                  rw [if_pos (by kernel_rfl)]
                  refine wp_store_row 50 _ _ rfl (wm.heap.size) r'.cells (by kernel_rfl) (by kernel_rfl) 50 _ HZC.out rinfo rfl (RF.ones _) ?_
                  refine hK.out _ _ HT.out.bel fun hSe => ?_
                  clear hK
                  refine wpAnyH_take (i := 9) (v := .int .i64 (s.wr l8).2) rfl (by kernel_rfl) (by kernel_rfl) (by kernel_rfl) (fun _ _ _ h => h) (Or.inl ⟨by kernel_rfl, fun w' _ => by kernel_rfl⟩) hSe ?_
                  refine wpAnyH_done (by kernel_rfl) ?_ _
                  go_simp
                  go_wp2
                  go_meet
                  exact ⟨_, _, _, rfl, rfl, HT.out⟩
              · go_simp
                have HZV := Lib.hid (show Blk (w5.drew.alloc (.cells zero19 50)) w5.drew.heap.size 50 zero19 from heap_alloc_new w5.drew _)
                refine hK.out _ _ (hS.trans (below_alloc hS.size (.cells zero19 50))) fun hSa => ?_
                clear hK
                refine wpAnyH_ready (rs := [2]) (by kernel_rfl) (by simp) ?_
                refine AllReadyH.cons rfl (fun K hK => ?_) AllReadyH.nil
                go_simp
                refine (HWS.out _).mono ?_
                rintro e wm ⟨rfl, hbm⟩
                have HZVm := Lib.hid (HZV.out.below hbm HZV.out.lt)
                refine hK.out _ _ (hSa.trans (hbm.mono hSa.size)) fun hSm => ?_
                clear hK hbm
                refine wpAnyH_ready (rs := [3]) (by kernel_rfl) (by simp) ?_
                refine AllReadyH.cons rfl (fun K hK => ?_) AllReadyH.nil
                go_simp
                obtain ⟨-, -, -, hI8⟩ := HONE.out _ (HP5.out.go hSm).c.bel
                refine (refwrite_any (HP5.out.go hSm).ri HP5.out.c.ok hI8 (by omega)).mono ?_
                rintro e wc ⟨r', rfl, hbc, hRc⟩
                refine hK.out _ _ (hSm.trans (hbc.mono hSm.size)) fun hSc => ?_
                clear hK
                have hzc := HZVm.out.below hbc HZVm.out.lt
                have HT := Lib.hid (HP5.out.told hSm hbc hRc (Below.refl _ wc) hzc hS.size (.inl HZVm.out.lt))
                have HZC := Lib.hid hzc
                clear hzc
                refine wpAnyH_take (i := 4) (v := .tuple #[RF.v r', .int .i64 (s.wr l8).2]) rfl (by kernel_rfl) (by kernel_rfl) (by kernel_rfl) (fun _ _ _ h => h) (Or.inl ⟨by kernel_rfl, fun w' _ => by kernel_rfl⟩) hSc ?_
                refine wpAnyH_take (i := 6) (v := .int .i64 (s.wr l8).2) rfl (by kernel_rfl) (by kernel_rfl) (by kernel_rfl) (fun _ _ _ h => h) (Or.inl ⟨by kernel_rfl, fun w' _ => by kernel_rfl⟩) hSc ?_
                refine wpAnyH_ready (rs := [5]) (by kernel_rfl) (by simp) ?_
                refine AllReadyH.cons rfl (fun K hK => ?_) AllReadyH.nil
                go_simp
                refine hK.out _ _ hSc fun hSf => ?_
                clear hK
                refine wpAnyH_ready (rs := [8]) (by kernel_rfl) (by simp) ?_
                refine AllReadyH.cons rfl (fun K hK => ?_) AllReadyH.nil
                rw [if_pos (by kernel_rfl)]
                refine wp_store_row 50 _ _ rfl (w5.drew.heap.size) r'.cells (by kernel_rfl) (by kernel_rfl) 50 _ HZC.out rinfo rfl (RF.ones _) ?_
                refine hK.out _ _ HT.out.bel fun hSe => ?_
                clear hK
                refine wpAnyH_take (i := 9) (v := .int .i64 (s.wr l8).2) rfl (by kernel_rfl) (by kernel_rfl) (by kernel_rfl) (fun _ _ _ h => h) (Or.inl ⟨by kernel_rfl, fun w' _ => by kernel_rfl⟩) hSe ?_
                refine wpAnyH_done (by kernel_rfl) ?_ _
                go_simp
                go_wp2
                go_meet
                exact ⟨_, _, _, rfl, rfl, HT.out⟩
            case rest =>
              obtain ⟨z', Y6, r', rfl, rfl, hT⟩ := hcut
              have hZ6 : Blk (wc.setRow x r'.cells) z 54 #[.int .i64 (K1 k), .int .i64 (N1 k), .slice A' n' c'] :=
                (HZ.out.below hT.bel HZ.out.lt).of (setRow_other _ _ _ _ (Ne.symm (Nat.ne_of_lt hxz)))
              have d0 : (wc.setRow x r'.cells).cell? ⟨z, 0, none⟩ = some (.int .i64 (K1 k)) := (hZ6.cell 0).trans rfl
              have d1 : (wc.setRow x r'.cells).cell? ⟨z, 1, none⟩ = some (.int .i64 (N1 k)) := (hZ6.cell 1).trans rfl
              have d2 : (wc.setRow x r'.cells).cell? ⟨z, 2, none⟩ = some (.slice A' n' c') := (hZ6.cell 2).trans rfl
              have HT := Lib.hid hT
              have HKX := Lib.hid (HP5.out.k.below hT.bel HP5.out.k.lt)
              have HP6 := Lib.hid (hT.pat HP5.out)
              clear hT hZ6 c0 c1 c2 HP5
              go_wp2_with (first
                  | (refine wpList_load_row rfl 50 _ rfl z' rfl 50 _ (0, 0) _ HT.out.z Tryd.underlying50 rfl rinfo ?_)
                  | (refine wpList_store_row rfl 50 _ _ rfl x _ rfl rfl 50 r.cells HKX.out rinfo rfl (RF.ones _) ?_))
              refine (HWS.out _).mono ?_
              rintro e w7 ⟨rfl, hb7⟩
              have HP7 := Lib.hid (HP6.out.go hb7)
              obtain ⟨-, -, -, hI8⟩ := HONE.out w7 HP7.out.c.bel
              have HO := Lib.hid (ctx_wr HP7.out.c hI8 (by omega))
              clear hb7 hI8 HP6 HT HKX d0 d1 d2 HWS HKS
              go_wp2_with fail
              refine HO.out.mono ?_
              rintro e w8 ⟨rfl, hC8, hO8⟩
              have HP8 := Lib.hid (HP7.out.ring hC8 hO8)
              have HS8 := Lib.hid (show (s.wr l8).1.W = wordsOf n0 from (wr_W s l8).trans HS.out)
              clear hC8 hO8 HO HP7
              go_wp2_with fail
              go_meet
              exact ⟨by simp, _, _, _, HP8.out, HS8.out⟩
        · as_aux_lemma =>
            go_wp2_with (refine wpList_load_row rfl 50 _ rfl x rfl 50 _ (0, 0) _ HP5.out.k Tryd.underlying50 rfl rinfo ?_)
            refine (refread_any HP5.out.ri).mono ?_
            rintro e w6 ⟨r', rfl, hb6, hR6⟩
            have hT := HP5.out.told (Below.refl _ w5) hb6 hR6 (below_alloc (Nat.le_refl w6.heap.size) (.cells zero19 50)) (heap_alloc_new w6 (.cells zero19 50)) hb6.size (.inr (Nat.le_refl _))
            have HT := Lib.hid hT
            have HKX := Lib.hid (HP5.out.k.below hT.bel HP5.out.k.lt)
            have HP6 := Lib.hid (hT.pat HP5.out)
            clear hT hb6 hR6
            go_wp2_with (first
              | (refine wpList_load_row rfl 50 _ rfl w6.heap.size rfl 50 _ (0, 0) _ HT.out.z Tryd.underlying50 rfl rinfo ?_)
              | (refine wpList_store_row rfl 50 _ _ rfl w6.heap.size _ rfl rfl 50 zero19 (heap_alloc_new w6 _) rinfo rfl (RF.ones _) ?_)
              | (refine wpList_store_row rfl 50 _ _ rfl x _ rfl rfl 50 r.cells HKX.out rinfo rfl (RF.ones _) ?_))
            have HO := Lib.hid (ctx_rd HP6.out.c)
            refine HO.out.mono ?_
            rintro e w7 ⟨rfl, hC7, hO7⟩
            have HP7 := Lib.hid (HP6.out.ring hC7 hO7)
            have HS7 := Lib.hid (show (s.rd.1).W = wordsOf n0 from (rd_W s).trans HS.out)
            clear hC7 hO7 HO HP6 HT HKX HP5
            go_wp2_with fail
            go_meet
            exact ⟨by simp, _, _, _, HP7.out, HS7.out⟩
        · as_aux_lemma =>
            have kb0 : (kd == (0 : Int)) = false := by simp; omega
            have kb1 : (kd == (1 : Int)) = false := by simp; omega
            go_upto_if 71 with (fail)
            go_cut [71] (fun v wx => v = .bool true ∧ w5 = wx)
            case first =>
              clear kb0 kb1
              have hk5 : kd = 2 ∨ kd = 3 ∨ kd = 4 ∨ kd = 5 ∨ kd = 6 := by omega
              clear hkm hkd HKS
              rcases hk5 with rfl | rfl | rfl | rfl | rfl
              all_goals
                go_wp2_with fail
                go_meet
                exact ⟨rfl, rfl⟩
            case rest =>
              obtain ⟨rfl, hw5⟩ := hcut
              subst hw5
              clear kb0 kb1
              obtain ⟨bb, hbb⟩ : ∃ bb, bb = decide (kd < (5 : Int)) := ⟨_, rfl⟩
              obtain ⟨q, hq⟩ : ∃ q, q = s.step bb := ⟨_, rfl⟩
              have HRS := Lib.hid (show ∀ (wb : World) {Y : Nat → Prop}, RefIn wb Y r s → (∀ k, Y k → k < wb.heap.size) → Calls Tryd.prog 24 #[r.v, .bool bb] wb fun e w' => ∃ r' A c, e = .returned (.tuple #[RF.v r', .slice A q.2.1.length c, .bool q.2.2.1, .int .i64 q.2.2.2]) ∧ Below wb.heap.size wb w' ∧ RefIn w' (newX Y wb w') r' q.1 ∧ IntsX w' (newX Y wb w') (.slice A q.2.1.length c) q.2.1 from fun wb Y h hy => by
                rw [hq]; exact fstep_any h HP5.out.c.ok hy bb)
              have hlq : q.2.1.length ≤ 1073741824 := by rw [hq]; exact step_len3 HP5.out.c.ok bb
              have HLK := Lib.hid hlq
              have HQ := Lib.hid hq
              have HBB := Lib.hid hbb
              clear hq hbb hlq
              go_upto_region 24 with (fail)
              go_cut [14, 15, 16, 17] (fun p l d f wx => ∃ (z' : Nat) (Y6 : Nat → Prop) (r' : RF) (A2 : Option Addr) (c2' : Nat), p = .pointer (some ⟨z', 0, none⟩) ∧ l = .slice A2 q.2.1.length c2' ∧ d = .bool q.2.2.1 ∧ f = .int .i64 q.2.2.2 ∧ Told w5 wx x z' Y Y6 r' q.1 ∧ IntsX wx Y6 (.slice A2 q.2.1.length c2') q.2.1)
              case first =>
                go_wp2_with fail
                refine wp_region_held_drew (S := fun w' => Below w5.heap.size w5 w') rfl (Below.refl _ w5).drew fun hS => ?_
                refine wpAnyH_take (i := 0) (v := .agg r.cells) rfl (by kernel_rfl) (by kernel_rfl) (by kernel_rfl) (fun _ _ _ h => h) (Or.inl ⟨by kernel_rfl, fun w' hS' => yields_row 50 _ rfl x rfl (HP5.out.k.below hS' HP5.out.k.lt) Tryd.underlying50 rfl rinfo⟩) hS ?_
                refine wpAnyH_take (i := 1) (v := .agg #[.int .i64 (K1 k), .int .i64 (N1 k), .slice A' n' c']) rfl (by kernel_rfl) (by kernel_rfl) (by kernel_rfl) (fun _ _ _ h => h) (Or.inl ⟨by kernel_rfl, fun w' hS' => yields_row 54 _ rfl z rfl (HZ.out.below hS' HZ.out.lt) Tryd.underlying54 rfl (by kernel_rfl)⟩) hS ?_
                refine wpAnyH_ready (rs := [2, 10]) (by kernel_rfl) (by simp) ?_
                refine AllReadyH.cons rfl (fun K hK => ?_) (AllReadyH.cons rfl (fun K hK => ?_) AllReadyH.nil)
                · go_simp
                  refine (HKS.out _).mono ?_
                  rintro e wm ⟨rfl, hbm⟩
                  refine hK.out _ _ (hS.trans (hbm.mono hS.size)) fun hSm => ?_
                  clear hK hbm
                  refine wpAnyH_take (i := 3) (v := .bool bb) rfl (by kernel_rfl) (by kernel_rfl) (by kernel_rfl) (fun _ _ _ h => h) (Or.inl ⟨by kernel_rfl, fun w' _ => by rw [HBB.out]; go_simp⟩) hSm ?_
                  refine wpAnyH_ready (rs := [4, 10]) (by kernel_rfl) (by simp) ?_
                  refine AllReadyH.cons rfl (fun K hK => ?_) (AllReadyH.cons rfl (fun K hK => ?_) AllReadyH.nil)
                  · go_simp
                    refine (HRS.out _ (HP5.out.go hSm).ri fun k e => ((HP5.out.go hSm).yl k e).1).mono ?_
                    rintro e wc ⟨r', A2, c2', rfl, hbc, hRc, hLc⟩
                    refine hK.out _ _ (hSm.trans (hbc.mono hSm.size)) fun hSc => ?_
                    clear hK
                    refine wpAnyH_take (i := 5) (v := .tuple #[RF.v r', .slice A2 q.2.1.length c2', .bool q.2.2.1, .int .i64 q.2.2.2]) rfl (by kernel_rfl) (by kernel_rfl) (by kernel_rfl) (fun _ _ _ h => h) (Or.inl ⟨by kernel_rfl, fun w' _ => by kernel_rfl⟩) hSc ?_
                    refine wpAnyH_take (i := 6) (v := RF.v r') rfl (by kernel_rfl) (by kernel_rfl) (by kernel_rfl) (fun _ _ _ h => h) (Or.inl ⟨by kernel_rfl, fun w' _ => by kernel_rfl⟩) hSc ?_
                    refine wpAnyH_take (i := 7) (v := .slice A2 q.2.1.length c2') rfl (by kernel_rfl) (by kernel_rfl) (by kernel_rfl) (fun _ _ _ h => h) (Or.inl ⟨by kernel_rfl, fun w' _ => by kernel_rfl⟩) hSc ?_
                    refine wpAnyH_take (i := 8) (v := .bool q.2.2.1) rfl (by kernel_rfl) (by kernel_rfl) (by kernel_rfl) (fun _ _ _ h => h) (Or.inl ⟨by kernel_rfl, fun w' _ => by kernel_rfl⟩) hSc ?_
                    refine wpAnyH_take (i := 9) (v := .int .i64 q.2.2.2) rfl (by kernel_rfl) (by kernel_rfl) (by kernel_rfl) (fun _ _ _ h => h) (Or.inl ⟨by kernel_rfl, fun w' _ => by kernel_rfl⟩) hSc ?_
                    refine wpAnyH_ready (rs := [10]) (by kernel_rfl) (by simp) ?_
                    refine AllReadyH.cons rfl (fun K hK => ?_) AllReadyH.nil
                    go_simp
                    have hba := below_alloc (w := wc) (Nat.le_refl wc.heap.size) (.cells zero19 50)
                    have HT := Lib.hid (HP5.out.told hSm hbc hRc hba (heap_alloc_new wc (.cells zero19 50)) hSc.size (.inr (Nat.le_refl _)))
                    have HL := Lib.hid (HP5.out.toldX (r' := r') hSm hbc hLc hba hSc.size (.inr (Nat.le_refl _)))
                    have HZC := Lib.hid (show Blk (wc.alloc (.cells zero19 50)) wc.heap.size 50 zero19 from heap_alloc_new wc _)
                    refine hK.out _ _ (hSc.trans (hba.mono hSc.size)) fun hSd => ?_
                    clear hK
                    refine wpAnyH_ready (rs := [11]) (by kernel_rfl) (by simp) ?_
                    refine AllReadyH.cons rfl (fun K hK => ?_) AllReadyH.nil
                    rw [if_pos (by kernel_rfl)]
                    refine wp_store_row 50 _ _ rfl (wc.heap.size) r'.cells (by kernel_rfl) (by kernel_rfl) 50 _ HZC.out rinfo rfl (RF.ones _) ?_
                    refine hK.out _ _ HT.out.bel fun hSe => ?_
                    clear hK
                    refine wpAnyH_take (i := 12) (v := .slice A2 q.2.1.length c2') rfl (by kernel_rfl) (by kernel_rfl) (by kernel_rfl) (fun _ _ _ h => h) (Or.inl ⟨by kernel_rfl, fun w' _ => by kernel_rfl⟩) hSe ?_
                    refine wpAnyH_take (i := 13) (v := .bool q.2.2.1) rfl (by kernel_rfl) (by kernel_rfl) (by kernel_rfl) (fun _ _ _ h => h) (Or.inl ⟨by kernel_rfl, fun w' _ => by kernel_rfl⟩) hSe ?_
                    refine wpAnyH_take (i := 14) (v := .int .i64 q.2.2.2) rfl (by kernel_rfl) (by kernel_rfl) (by kernel_rfl) (fun _ _ _ h => h) (Or.inl ⟨by kernel_rfl, fun w' _ => by kernel_rfl⟩) hSe ?_
                    refine wpAnyH_done (by kernel_rfl) ?_ _
                    go_simp
                    go_wp2
                    go_meet
                    exact ⟨_, _, _, _, _, rfl, rfl, rfl, rfl, HT.out, HL.out⟩
                  · go_simp
                    have HZV := Lib.hid (show Blk (wm.alloc (.cells zero19 50)) wm.heap.size 50 zero19 from heap_alloc_new wm _)
                    refine hK.out _ _ (hSm.trans (below_alloc hSm.size (.cells zero19 50))) fun hSa => ?_
                    clear hK
                    refine wpAnyH_ready (rs := [4]) (by kernel_rfl) (by simp) ?_
                    refine AllReadyH.cons rfl (fun K hK => ?_) AllReadyH.nil
                    go_simp
                    refine (HRS.out _ (HP5.out.go hSa).ri fun k e => ((HP5.out.go hSa).yl k e).1).mono ?_
                    rintro e wc ⟨r', A2, c2', rfl, hbc, hRc, hLc⟩
                    refine hK.out _ _ (hSa.trans (hbc.mono hSa.size)) fun hSc => ?_
                    clear hK
                    have hzc := HZV.out.below hbc HZV.out.lt
                    have HT := Lib.hid (HP5.out.told hSa hbc hRc (Below.refl _ wc) hzc hSm.size (.inl (by simp)))
                    have HL := Lib.hid (HP5.out.toldX (r' := r') hSa hbc hLc (Below.refl _ wc) hSm.size (.inl (by simp)))
                    have HZC := Lib.hid hzc
                    clear hzc
                    refine wpAnyH_take (i := 5) (v := .tuple #[RF.v r', .slice A2 q.2.1.length c2', .bool q.2.2.1, .int .i64 q.2.2.2]) rfl (by kernel_rfl) (by kernel_rfl) (by kernel_rfl) (fun _ _ _ h => h) (Or.inl ⟨by kernel_rfl, fun w' _ => by kernel_rfl⟩) hSc ?_
                    refine wpAnyH_take (i := 7) (v := .slice A2 q.2.1.length c2') rfl (by kernel_rfl) (by kernel_rfl) (by kernel_rfl) (fun _ _ _ h => h) (Or.inl ⟨by kernel_rfl, fun w' _ => by kernel_rfl⟩) hSc ?_
                    refine wpAnyH_take (i := 8) (v := .bool q.2.2.1) rfl (by kernel_rfl) (by kernel_rfl) (by kernel_rfl) (fun _ _ _ h => h) (Or.inl ⟨by kernel_rfl, fun w' _ => by kernel_rfl⟩) hSc ?_
                    refine wpAnyH_take (i := 9) (v := .int .i64 q.2.2.2) rfl (by kernel_rfl) (by kernel_rfl) (by kernel_rfl) (fun _ _ _ h => h) (Or.inl ⟨by kernel_rfl, fun w' _ => by kernel_rfl⟩) hSc ?_
                    refine wpAnyH_ready (rs := [6]) (by kernel_rfl) (by simp) ?_
                    refine AllReadyH.cons rfl (fun K hK => ?_) AllReadyH.nil
                    go_simp
                    refine hK.out _ _ hSc fun hSf => ?_
                    clear hK
                    refine wpAnyH_ready (rs := [11]) (by kernel_rfl) (by simp) ?_
                    refine AllReadyH.cons rfl (fun K hK => ?_) AllReadyH.nil
                    rw [if_pos (by kernel_rfl)]
                    refine wp_store_row 50 _ _ rfl (wm.heap.size) r'.cells (by kernel_rfl) (by kernel_rfl) 50 _ HZC.out rinfo rfl (RF.ones _) ?_
                    refine hK.out _ _ HT.out.bel fun hSe => ?_
                    clear hK
                    refine wpAnyH_take (i := 12) (v := .slice A2 q.2.1.length c2') rfl (by kernel_rfl) (by kernel_rfl) (by kernel_rfl) (fun _ _ _ h => h) (Or.inl ⟨by kernel_rfl, fun w' _ => by kernel_rfl⟩) hSe ?_
                    refine wpAnyH_take (i := 13) (v := .bool q.2.2.1) rfl (by kernel_rfl) (by kernel_rfl) (by kernel_rfl) (fun _ _ _ h => h) (Or.inl ⟨by kernel_rfl, fun w' _ => by kernel_rfl⟩) hSe ?_
                    refine wpAnyH_take (i := 14) (v := .int .i64 q.2.2.2) rfl (by kernel_rfl) (by kernel_rfl) (by kernel_rfl) (fun _ _ _ h => h) (Or.inl ⟨by kernel_rfl, fun w' _ => by kernel_rfl⟩) hSe ?_
                    refine wpAnyH_done (by kernel_rfl) ?_ _
                    go_simp
                    go_wp2
                    go_meet
                    exact ⟨_, _, _, _, _, rfl, rfl, rfl, rfl, HT.out, HL.out⟩
                · go_simp
                  have HZV := Lib.hid (show Blk (w5.drew.alloc (.cells zero19 50)) w5.drew.heap.size 50 zero19 from heap_alloc_new w5.drew _)
                  refine hK.out _ _ (hS.trans (below_alloc hS.size (.cells zero19 50))) fun hSa => ?_
                  clear hK
                  refine wpAnyH_ready (rs := [2]) (by kernel_rfl) (by simp) ?_
                  refine AllReadyH.cons rfl (fun K hK => ?_) AllReadyH.nil
                  go_simp
                  refine (HKS.out _).mono ?_
                  rintro e wm ⟨rfl, hbm⟩
                  have HZVm := Lib.hid (HZV.out.below hbm HZV.out.lt)
                  refine hK.out _ _ (hSa.trans (hbm.mono hSa.size)) fun hSm => ?_
                  clear hK hbm
                  refine wpAnyH_take (i := 3) (v := .bool bb) rfl (by kernel_rfl) (by kernel_rfl) (by kernel_rfl) (fun _ _ _ h => h) (Or.inl ⟨by kernel_rfl, fun w' _ => by rw [HBB.out]; go_simp⟩) hSm ?_
                  refine wpAnyH_ready (rs := [4]) (by kernel_rfl) (by simp) ?_
                  refine AllReadyH.cons rfl (fun K hK => ?_) AllReadyH.nil
                  go_simp
                  refine (HRS.out _ (HP5.out.go hSm).ri fun k e => ((HP5.out.go hSm).yl k e).1).mono ?_
                  rintro e wc ⟨r', A2, c2', rfl, hbc, hRc, hLc⟩
                  refine hK.out _ _ (hSm.trans (hbc.mono hSm.size)) fun hSc => ?_
                  clear hK
                  have hzc := HZVm.out.below hbc HZVm.out.lt
                  have HT := Lib.hid (HP5.out.told hSm hbc hRc (Below.refl _ wc) hzc hS.size (.inl HZVm.out.lt))
                  have HL := Lib.hid (HP5.out.toldX (r' := r') hSm hbc hLc (Below.refl _ wc) hS.size (.inl HZVm.out.lt))
                  have HZC := Lib.hid hzc
                  clear hzc
                  refine wpAnyH_take (i := 5) (v := .tuple #[RF.v r', .slice A2 q.2.1.length c2', .bool q.2.2.1, .int .i64 q.2.2.2]) rfl (by kernel_rfl) (by kernel_rfl) (by kernel_rfl) (fun _ _ _ h => h) (Or.inl ⟨by kernel_rfl, fun w' _ => by kernel_rfl⟩) hSc ?_
                  refine wpAnyH_take (i := 7) (v := .slice A2 q.2.1.length c2') rfl (by kernel_rfl) (by kernel_rfl) (by kernel_rfl) (fun _ _ _ h => h) (Or.inl ⟨by kernel_rfl, fun w' _ => by kernel_rfl⟩) hSc ?_
                  refine wpAnyH_take (i := 8) (v := .bool q.2.2.1) rfl (by kernel_rfl) (by kernel_rfl) (by kernel_rfl) (fun _ _ _ h => h) (Or.inl ⟨by kernel_rfl, fun w' _ => by kernel_rfl⟩) hSc ?_
                  refine wpAnyH_take (i := 9) (v := .int .i64 q.2.2.2) rfl (by kernel_rfl) (by kernel_rfl) (by kernel_rfl) (fun _ _ _ h => h) (Or.inl ⟨by kernel_rfl, fun w' _ => by kernel_rfl⟩) hSc ?_
                  refine wpAnyH_ready (rs := [6]) (by kernel_rfl) (by simp) ?_
                  refine AllReadyH.cons rfl (fun K hK => ?_) AllReadyH.nil
                  go_simp
                  refine hK.out _ _ hSc fun hSf => ?_
                  clear hK
                  refine wpAnyH_ready (rs := [11]) (by kernel_rfl) (by simp) ?_
                  refine AllReadyH.cons rfl (fun K hK => ?_) AllReadyH.nil
                  rw [if_pos (by kernel_rfl)]
                  refine wp_store_row 50 _ _ rfl (w5.drew.heap.size) r'.cells (by kernel_rfl) (by kernel_rfl) 50 _ HZC.out rinfo rfl (RF.ones _) ?_
                  refine hK.out _ _ HT.out.bel fun hSe => ?_
                  clear hK
                  refine wpAnyH_take (i := 12) (v := .slice A2 q.2.1.length c2') rfl (by kernel_rfl) (by kernel_rfl) (by kernel_rfl) (fun _ _ _ h => h) (Or.inl ⟨by kernel_rfl, fun w' _ => by kernel_rfl⟩) hSe ?_
                  refine wpAnyH_take (i := 13) (v := .bool q.2.2.1) rfl (by kernel_rfl) (by kernel_rfl) (by kernel_rfl) (fun _ _ _ h => h) (Or.inl ⟨by kernel_rfl, fun w' _ => by kernel_rfl⟩) hSe ?_
                  refine wpAnyH_take (i := 14) (v := .int .i64 q.2.2.2) rfl (by kernel_rfl) (by kernel_rfl) (by kernel_rfl) (fun _ _ _ h => h) (Or.inl ⟨by kernel_rfl, fun w' _ => by kernel_rfl⟩) hSe ?_
                  refine wpAnyH_done (by kernel_rfl) ?_ _
                  go_simp
                  go_wp2
                  go_meet
                  exact ⟨_, _, _, _, _, rfl, rfl, rfl, rfl, HT.out, HL.out⟩
              case rest =>
                obtain ⟨z', Y6, r', A2, c2', rfl, rfl, rfl, rfl, hT, hL⟩ := hcut
                have hL6 := hT.patX hL
                have HL6 := Lib.hid hL6
                clear hL hL6
                have hZ6 : Blk (wc.setRow x r'.cells) z 54 #[.int .i64 (K1 k), .int .i64 (N1 k), .slice A' n' c'] :=
                  (HZ.out.below hT.bel HZ.out.lt).of (setRow_other _ _ _ _ (Ne.symm (Nat.ne_of_lt hxz)))
                have d0 : (wc.setRow x r'.cells).cell? ⟨z, 0, none⟩ = some (.int .i64 (K1 k)) := (hZ6.cell 0).trans rfl
                have d1 : (wc.setRow x r'.cells).cell? ⟨z, 1, none⟩ = some (.int .i64 (N1 k)) := (hZ6.cell 1).trans rfl
                have d2 : (wc.setRow x r'.cells).cell? ⟨z, 2, none⟩ = some (.slice A' n' c') := (hZ6.cell 2).trans rfl
                have HT := Lib.hid hT
                have HKX := Lib.hid (HP5.out.k.below hT.bel HP5.out.k.lt)
                have HP6 := Lib.hid (hT.pat HP5.out)
                clear hT hZ6 c0 c1 c2 HP5
                go_wp2_with (first
                    | (refine wpList_load_row rfl 50 _ rfl z' rfl 50 _ (0, 0) _ HT.out.z Tryd.underlying50 rfl rinfo ?_)
                    | (refine wpList_store_row rfl 50 _ _ rfl x _ rfl rfl 50 r.cells HKX.out rinfo rfl (RF.ones _) ?_))
                refine (HKS.out _).mono ?_
                rintro e w7 ⟨rfl, hb7⟩
                have HP7 := Lib.hid (HP6.out.go hb7)
                have HL7 := Lib.hid (HL6.out.below hb7)
                have HO := Lib.hid (show Calls Tryd.prog 17 #[.pointer (some ⟨b, 0, none⟩), .bool bb] w7 fun e w' => ∃ v, e = .returned (.tuple #[v, .bool q.2.2.1, .int .i64 q.2.2.2]) ∧ (Ctx w w' b mb lb (lawX x Y6) q.1 ∧ Kept (lawX x Y6) w7 w') ∧ IntsIn w' v q.2.1 ∧ ∀ g, v.ownBlock = some g → w7.heap.size ≤ g from by rw [HQ.out]; exact ctx_step HP7.out.c bb)
                have hbd : decide (kd < (5 : Int)) = bb := HBB.out.symm
                clear hb7 HP6 HT HKX HL6 d0 d1 d2 HKS
                go_wp2_with fail
                refine HO.out.mono ?_
                rintro e w8 ⟨v3, rfl, ⟨hC8, hO8⟩, hI8, -⟩
                obtain ⟨A3, c3, rfl⟩ := hI8.form
                have HP8 := Lib.hid (HP7.out.ring hC8 hO8)
                have HL8 := Lib.hid (HP7.out.keepX hO8 HL7.out)
                have HSA := Lib.hid (same_yes HL8.out.ints hI8 HLK.out)
                have HS8 := Lib.hid (show q.1.W = wordsOf n0 from by rw [HQ.out]; exact (step_W s bb).trans HS.out)
                clear hC8 hO8 HO HP7 HL7 hI8 HL8 HLK
                go_wp2_with fail
                refine HSA.out.mono ?_
                rintro e w9 ⟨rfl, nd, rfl⟩
                have HP9 := Lib.hid (HP8.out.go (below_drewN' _ nd))
                clear HSA HP8
                go_wp2_with fail
                go_meet
                exact ⟨by simp, _, _, _, HP9.out, HS8.out⟩
        · as_aux_lemma =>
            obtain ⟨dd, hdd⟩ : ∃ dd, dd = decide (0 < s.left ((N1 k).tmod 2 == 0)) := ⟨_, rfl⟩
            have HC1 := Lib.hid (refdrop_any HP5.out.ri ((N1 k).tmod 2 == 0))
            rw [← hdd] at HC1
            have HDD := Lib.hid hdd
            clear hdd
            go_wp2_with (refine wpList_load_row rfl 50 _ rfl x rfl 50 _ (0, 0) _ HP5.out.k Tryd.underlying50 rfl rinfo ?_)
            refine HC1.out.mono ?_
            rintro e w6 ⟨r', rfl, hb6, hR6⟩
            have hT := HP5.out.told (Below.refl _ w5) hb6 hR6 (below_alloc (Nat.le_refl w6.heap.size) (.cells zero19 50)) (heap_alloc_new w6 (.cells zero19 50)) hb6.size (.inr (Nat.le_refl _))
            have HT := Lib.hid hT
            have HKX := Lib.hid (HP5.out.k.below hT.bel HP5.out.k.lt)
            have HP6 := Lib.hid (hT.pat HP5.out)
            have d1 : (((w6.alloc (.cells zero19 50)).setRow w6.heap.size r'.cells).setRow x r'.cells).cell? ⟨z, 1, none⟩ = some (.int .i64 (N1 k)) :=
              (((HZ.out.below hT.bel HZ.out.lt).of (setRow_other _ _ _ _ (Ne.symm (Nat.ne_of_lt hxz)))).cell 1).trans rfl
            clear HC1
            simp only [zero19] at d1
            clear hT hb6 hR6
            go_wp2_with (first
              | (refine wpList_load_row rfl 50 _ rfl w6.heap.size rfl 50 _ (0, 0) _ HT.out.z Tryd.underlying50 rfl rinfo ?_)
              | (refine wpList_store_row rfl 50 _ _ rfl w6.heap.size _ rfl rfl 50 zero19 (heap_alloc_new w6 _) rinfo rfl (RF.ones _) ?_)
              | (refine wpList_store_row rfl 50 _ _ rfl x _ rfl rfl 50 r.cells HKX.out rinfo rfl (RF.ones _) ?_))
            have HO := Lib.hid (ctx_drop HP6.out.c ((N1 k).tmod 2 == 0))
            rw [← HDD.out] at HO
            refine HO.out.mono ?_
            rintro e w7 ⟨rfl, hC7, hO7⟩
            have HP7 := Lib.hid (HP6.out.ring hC7 hO7)
            have HS7 := Lib.hid (show ((s.drop ((N1 k).tmod 2 == 0))).W = wordsOf n0 from (drop_W s ((N1 k).tmod 2 == 0)).trans HS.out)
            clear hC7 hO7 HO HP6 HT HKX HP5 d1
            go_wp2_with fail
            go_meet
            exact ⟨by simp, _, _, _, HP7.out, HS7.out⟩
      case rest =>
        obtain ⟨rfl, Y2, r2, s2, hP2, hs2⟩ := hcut
        have HP := Lib.hid hP2
        have HS2 := Lib.hid hs2
        clear hP2 hs2 HWS HKS HONE HZ HP5 HS c0 c1 c2
        go_upto_region 32 with (fail)
        go_cut [153] (fun v wx => v = .bool false ∧ ∃ Y, PAt w wx b mb lb x Y r2 s2 s2)
        case first =>
          have HLU := Lib.hid (show ∀ w', Below wc.heap.size wc w' → Calls Tryd.prog 14 #[.pointer (some ⟨b, 0, none⟩), .bool true] w' fun e w'' => e = .returned (.int .i64 (s2.left true)) ∧ w' = w'' from fun w' h => ctx_left (HP.out.go h).c true)
          have HRU := Lib.hid (show ∀ w', Below wc.heap.size wc w' → Calls Tryd.prog 27 #[r2.v, .bool true] w' fun e w'' => e = .returned (.int .i64 (s2.left true)) ∧ Below w'.heap.size w' w'' from fun w' h => refleft_any (HP.out.go h).ri HP.out.c.ok true)
          have HLO := Lib.hid (show ∀ w', Below wc.heap.size wc w' → Calls Tryd.prog 14 #[.pointer (some ⟨b, 0, none⟩), .bool false] w' fun e w'' => e = .returned (.int .i64 (s2.left false)) ∧ w' = w'' from fun w' h => ctx_left (HP.out.go h).c false)
          have HRO := Lib.hid (show ∀ w', Below wc.heap.size wc w' → Calls Tryd.prog 27 #[r2.v, .bool false] w' fun e w'' => e = .returned (.int .i64 (s2.left false)) ∧ Below w'.heap.size w' w'' from fun w' h => refleft_any (HP.out.go h).ri HP.out.c.ok false)
          generalize (s2.left true : Int) = lu at *
          generalize (s2.left false : Int) = lo at *
          have hml : s2.mem.length ≤ 1073741824 := by
            have h1 := HP.out.c.ok.len
            have h2 := HP.out.c.ok.w6
            omega
          have HML := Lib.hid hml
          clear hml
          go_wp2_with fail
          refine wp_region_held_drew (S := fun w' => Below wc.heap.size wc w') rfl (Below.refl _ wc).drew fun hS => ?_
          refine wpAnyH_take (i := 0) (v := .bool true) rfl (by kernel_rfl) (by kernel_rfl) (by kernel_rfl) (fun _ _ _ h => h) (Or.inl ⟨by kernel_rfl, fun w' _ => by kernel_rfl⟩) hS ?_
          refine wpAnyH_take (i := 1) (v := .bool false) rfl (by kernel_rfl) (by kernel_rfl) (by kernel_rfl) (fun _ _ _ h => h) (Or.inl ⟨by kernel_rfl, fun w' _ => by go_simp⟩) hS ?_
          refine wpAnyH_take (i := 2) (v := .bool false) rfl (by kernel_rfl) (by kernel_rfl) (by kernel_rfl) (fun _ _ _ h => h) (Or.inl ⟨by kernel_rfl, fun w' _ => by go_simp⟩) hS ?_
          refine wpAnyH_take (i := 3) (v := .pointer (some ⟨b, 0, none⟩)) rfl (by kernel_rfl) (by kernel_rfl) (by kernel_rfl) (fun _ _ _ h => h) (Or.inl ⟨by kernel_rfl, fun w' _ => by kernel_rfl⟩) hS ?_
          refine wpAnyH_take (i := 5) (v := .agg r2.cells) rfl (by kernel_rfl) (by kernel_rfl) (by kernel_rfl) (fun _ _ _ h => h) (Or.inl ⟨by kernel_rfl, fun w' hS' => yields_row 50 _ rfl x rfl ((HP.out.go hS').k) Tryd.underlying50 rfl rinfo⟩) hS ?_
          refine wpAnyH_ready (rs := [4]) (by kernel_rfl) (by simp) ?_
          refine AllReadyH.cons rfl (fun K hK => ?_) AllReadyH.nil
          go_simp
          refine (HLU.out _ hS).mono ?_
          rintro e _w ⟨rfl, rfl⟩
          refine hK.out _ _ hS fun hS1 => ?_
          clear hK
          refine wpAnyH_ready (rs := [6]) (by kernel_rfl) (by simp) ?_
          refine AllReadyH.cons rfl (fun K hK => ?_) AllReadyH.nil
          go_simp
          refine (HRU.out _ hS1).mono ?_
          rintro e wl1 ⟨rfl, hbr1⟩
          refine hK.out _ _ (hS1.trans (hbr1.mono hS1.size)) fun hS1b => ?_
          clear hK
          refine wpAnyH_take (i := 7) (v := .bool false) rfl (by kernel_rfl) (by kernel_rfl) (by kernel_rfl) (fun _ _ _ h => h) (Or.inl ⟨by kernel_rfl, fun w' _ => by go_simp⟩) hS1b ?_
          refine wpAnyH_take (i := 8) (v := .bool false) rfl (by kernel_rfl) (by kernel_rfl) (by kernel_rfl) (fun _ _ _ h => h) (Or.inl ⟨by kernel_rfl, fun w' _ => by go_simp⟩) hS1b ?_
          refine wpAnyH_take (i := 9) (v := .bool false) rfl (by kernel_rfl) (by kernel_rfl) (by kernel_rfl) (fun _ _ _ h => h) (Or.inl ⟨by kernel_rfl, fun w' _ => by go_simp⟩) hS1b ?_
          refine wpAnyH_take (i := 10) (v := .pointer (some ⟨b, 0, none⟩)) rfl (by kernel_rfl) (by kernel_rfl) (by kernel_rfl) (fun _ _ _ h => h) (Or.inl ⟨by kernel_rfl, fun w' _ => by kernel_rfl⟩) hS1b ?_
          refine wpAnyH_take (i := 12) (v := .agg r2.cells) rfl (by kernel_rfl) (by kernel_rfl) (by kernel_rfl) (fun _ _ _ h => h) (Or.inl ⟨by kernel_rfl, fun w' hS' => yields_row 50 _ rfl x rfl ((HP.out.go hS').k) Tryd.underlying50 rfl rinfo⟩) hS1b ?_
          refine wpAnyH_ready (rs := [11]) (by kernel_rfl) (by simp) ?_
          refine AllReadyH.cons rfl (fun K hK => ?_) AllReadyH.nil
          go_simp
          refine (HLO.out _ hS1b).mono ?_
          rintro e _w ⟨rfl, rfl⟩
          refine hK.out _ _ hS1b fun hS2 => ?_
          clear hK
          refine wpAnyH_ready (rs := [13]) (by kernel_rfl) (by simp) ?_
          refine AllReadyH.cons rfl (fun K hK => ?_) AllReadyH.nil
          go_simp
          refine (HRO.out _ hS2).mono ?_
          rintro e wl2 ⟨rfl, hbr2⟩
          refine hK.out _ _ (hS2.trans (hbr2.mono hS2.size)) fun hS2b => ?_
          clear hK
          refine wpAnyH_take (i := 14) (v := .bool false) rfl (by kernel_rfl) (by kernel_rfl) (by kernel_rfl) (fun _ _ _ h => h) (Or.inl ⟨by kernel_rfl, fun w' _ => by go_simp⟩) hS2b ?_
          refine wpAnyH_take (i := 15) (v := .bool false) rfl (by kernel_rfl) (by kernel_rfl) (by kernel_rfl) (fun _ _ _ h => h) (Or.inl ⟨by kernel_rfl, fun w' _ => by go_simp⟩) hS2b ?_
          refine wpAnyH_take (i := 16) (v := .bool false) rfl (by kernel_rfl) (by kernel_rfl) (by kernel_rfl) (fun _ _ _ h => h) (Or.inl ⟨by kernel_rfl, fun w' _ => by go_simp⟩) hS2b ?_
          refine wpAnyH_take (i := 17) (v := .pointer (some ⟨b, 0, none⟩)) rfl (by kernel_rfl) (by kernel_rfl) (by kernel_rfl) (fun _ _ _ h => h) (Or.inl ⟨by kernel_rfl, fun w' _ => by kernel_rfl⟩) hS2b ?_
          refine wpAnyH_take (i := 19) (v := .agg r2.cells) rfl (by kernel_rfl) (by kernel_rfl) (by kernel_rfl) (fun _ _ _ h => h) (Or.inl ⟨by kernel_rfl, fun w' hS' => yields_row 50 _ rfl x rfl ((HP.out.go hS').k) Tryd.underlying50 rfl rinfo⟩) hS2b ?_
          refine wpAnyH_ready (rs := [18]) (by kernel_rfl) (by simp) ?_
          refine AllReadyH.cons rfl (fun K hK => ?_) AllReadyH.nil
          go_simp
          refine (ctx_cells (HP.out.go hS2b).c).mono ?_
          rintro e w5' ⟨v1, rfl, hi1, hb5⟩
          refine hK.out _ _ (hS2b.trans (hb5.mono hS2b.size)) fun hS5 => ?_
          clear hK
          refine wpAnyH_ready (rs := [20]) (by kernel_rfl) (by simp) ?_
          refine AllReadyH.cons rfl (fun K hK => ?_) AllReadyH.nil
          go_simp
          refine (refcells_any (HP.out.go hS5).ri HP.out.c.ok).mono ?_
          rintro e w6 ⟨v2, rfl, hi2, hb6⟩
          refine hK.out _ _ (hS5.trans (hb6.mono hS5.size)) fun hS6 => ?_
          clear hK
          refine wpAnyH_ready (rs := [21]) (by kernel_rfl) (by simp) ?_
          refine AllReadyH.cons rfl (fun K hK => ?_) AllReadyH.nil
          go_simp
          refine (same_yes (hi1.below hb6) hi2 HML.out).mono ?_
          rintro e w7 ⟨rfl, nd, rfl⟩
          refine hK.out _ _ (hS6.trans (below_drewN' _ nd |>.mono hS6.size)) fun hS7 => ?_
          clear hK
          refine wpAnyH_take (i := 22) (v := .bool false) rfl (by kernel_rfl) (by kernel_rfl) (by kernel_rfl) (fun _ _ _ h => h) (Or.inl ⟨by kernel_rfl, fun w' _ => by go_simp⟩) hS7 ?_
          refine wpAnyH_take (i := 23) (v := .bool false) rfl (by kernel_rfl) (by kernel_rfl) (by kernel_rfl) (fun _ _ _ h => h) (Or.inl ⟨by kernel_rfl, fun w' _ => by go_simp⟩) hS7 ?_
          refine wpAnyH_done (by kernel_rfl) ?_ _
          go_simp
          go_wp2
          go_meet
          exact ⟨rfl, _, HP.out.go hS7⟩
        case rest =>
          obtain ⟨rfl, Y3, hP3⟩ := hcut
          have HP3 := Lib.hid hP3
          clear hP3 HP
          go_wp2_with fail
          go_roundw
          case rel => exact ⟨k + 1, Y3, r2, s2, by omega, by go_num, HP3.out, HS2.out⟩
          case measure => simp [intOf]; omega
    · obtain rfl : k = e1 := by omega
      have b1' : ¬ (k : Int) < (k : Int) := by omega
      have k_W : wr.cell? ⟨x, 0, none⟩ = some (.int .i64 (wordsOf n0 : Int)) := (HP.out.k.cell 0).trans (by rw [← HS.out, ← HP.out.ri.W]; rfl)
      have HWQ := Lib.hid (show ∀ q, Calls Tryd.prog 13 #[.pointer (some ⟨b, 0, none⟩)] (wr.drewN q) fun e w' => e = .returned (.int .i64 (wordsOf n0 : Int)) ∧ w' = wr.drewN q from fun q => by
        have := ctx_words (HP.out.c.below (below_drewN' _ q))
        rw [HS.out] at this
        exact this.mono fun _ _ ⟨he, hw⟩ => ⟨he, hw.symm⟩)
      have HB := Lib.hid HP.out.c.bel
      have t1 : ((wordsOf n0 : Int) == (wordsOf n0 : Int)) = true := by simp
      clear HP HS
      generalize (wordsOf n0 : Int) = Wn at *
      go_wp2_with fail
      go_quiet (first | (go_at_call 13; exact Calls.quiet_of_same (HWQ.out _)))
      go_wp2
      go_ret
      exact ⟨by simp, below_drewN HB.out nq⟩
end Go.Proofs.YthpggeiacbdakaaDoor
