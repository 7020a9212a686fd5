/- RingPlays: what a ring answers is what the reference says: the walk. -/
import Derived.Test.YtelfclcljdjohaaDoorRefQ
import Derived.Test.YtelfclcljdjohaaDoorRefL
import Derived.Test.YtelfclcljdjohaaDoorRefM
import Derived.Test.YtelfclcljdjohaaDoorRefN
import Derived.Test.YtelfclcljdjohaaDoorRingResets
namespace Go.Proofs.YtelfclcljdjohaaDoor
open Go.RowKit

theorem pat_new {W w w2 : World} {b mb lb P Q : Nat} {r : RF} (hC : Ctx W w b mb lb (fun _ => False) (RS.new P Q)) (hb : Below w.heap.size w w2) (hR : RefIn w2 (From w.heap.size w2) r (RS.new P Q)) :
    PAt W ((w2.alloc (.cells zero22 51)).setRow w2.heap.size r.cells) b mb lb w2.heap.size (newX (fun _ => False) w (w2.alloc (.cells zero22 51))) (From w.heap.size w2) r (RS.new P Q) (RS.new P Q) := by
  have h1 := hC.grow (hb.trans (below_alloc hb.size (.cells zero22 51)))
  have hO : Only (fun k => k = w2.heap.size) (w2.alloc (.cells zero22 51)) ((w2.alloc (.cells zero22 51)).setRow w2.heap.size r.cells) :=
    ⟨rfl, rfl, rfl, by simp, fun k _ hn => setRow_other _ _ _ _ hn⟩
  have hX : newX (fun _ => False) w (w2.alloc (.cells zero22 51)) w2.heap.size := .inr ⟨hb.size, by simp⟩
  obtain ⟨vi, vo, c, hT⟩ := h1.at_
  refine ⟨⟨⟨vi, vo, c, hT.onl hO (fun k e => by rw [e]; exact h1.xr _ hX) (fun g hg e => hT.xi g hg (by rw [e]; exact hX)) (fun g hg e => hT.xo g hg (by rw [e]; exact hX))⟩, h1.ok, below_onl h1.bel hO h1.bel.size (fun k e => by rw [e]; exact Nat.le_trans hC.bel.size hb.size), h1.gb, h1.gm, h1.gl, h1.xr⟩, hR.map fun _ _ k => k.keep (fun g hg => ?_), setRow_heap _ _ zero22 _ 51 (0, 0) (heap_alloc_new w2 _), hX, fun k hg => ?_, fun e => by have := e.2; omega, Nat.le_trans hC.bel.size hb.size⟩
  · have h2 : g < w2.heap.size := hg.2
    rw [setRow_other _ _ _ _ (by omega), Below.heap_alloc _ _ _ h2]
  · have h2 : w.heap.size ≤ k := hg.1
    have h3 : k < w2.heap.size := hg.2
    exact .inr ⟨h2, by simp; omega⟩
theorem PAt.fresh {W w w2 : World} {b mb lb x : Nat} {X Y : Nat → Prop} {r r' : RF} {s s' s3 : RS} (h : PAt W w b mb lb x X Y r s s') (hb : Below w.heap.size w w2) (hR : RefIn w2 (From w.heap.size w2) r' s3) :
    PAt W (w2.setRow x r'.cells) b mb lb x (newX X w w2) (From w.heap.size w2) r' s s3 := by
  have hxl := h.k.lt
  have h1 := h.c.grow hb
  have hXx : newX X w w2 x := .inl h.xx
  have hO : Only (fun k => k = x) w2 (w2.setRow x r'.cells) := ⟨rfl, rfl, rfl, by simp, fun k _ hn => setRow_other _ _ _ _ hn⟩
  obtain ⟨vi, vo, c, hT⟩ := h1.at_
  refine ⟨⟨⟨vi, vo, c, hT.onl hO (fun k e => by rw [e]; exact h1.xr _ hXx) (fun g hg e => hT.xi g hg (by rw [e]; exact hXx)) (fun g hg e => hT.xo g hg (by rw [e]; exact hXx))⟩, h1.ok, below_onl h1.bel hO h1.bel.size (fun k e => by rw [e]; exact h.hx), h1.gb, h1.gm, h1.gl, h1.xr⟩, hR.map fun _ _ k => k.keep (fun g hg => setRow_other _ _ _ _ (by have := hg.1; omega)), setRow_heap _ _ _ _ 51 (0, 0) (h.k.below hb hxl), hXx, fun k e => .inr e, fun e => by have := e.1; omega, h.hx⟩
set_option maxRecDepth 100000 in
set_option maxHeartbeats 25600000 in
theorem ringPlays_law (n0 m0 : Int) (A1 : Option Addr) (len1 cap1 bs1 off1 : Nat) (K1 N1 : Nat → Int) (V1 : Nat → Value) (L1 : Nat → List Int) (w : World)
    (hS1 : StepsIn w A1 len1 bs1 off1 K1 N1 V1 L1) (hlc1 : len1 ≤ cap1) (_ : cap1 ≤ maxLen) :
    Calls Tryd.prog 7 #[.int .i64 n0, .int .i64 m0, .slice A1 len1 cap1] w fun e w' => e = .returned (.bool true) ∧ Below w.heap.size w w' := by
  have HE1 := Lib.hid (fun w => early_any A1 len1 cap1 w hlc1)
  have hS1' := hS1.cut (min len1 150) (by omega)
  have hm1 : min len1 150 ≤ cap1 := by omega
  have hx1 : min len1 150 ≤ 150 := by omega
  clear hS1 hlc1
  generalize min len1 150 = e1 at *
  have HS1 := Lib.hid hS1'
  clear hS1'
  go_enter Tryd.func7, Tryd.ntmps7
  go_wp2_with fail
  refine (lives_any w).mono ?_
  rintro e w1 ⟨rfl, hB1⟩
  go_wp2_with fail
  refine (ctx_new n0 m0 hB1).mono ?_
  rintro e w2 ⟨b, mb, lb, rfl, hB2, hC⟩
  have HC := Lib.hid hC
  clear hB1 hB2 hC
  go_wp2_with fail
  refine (refnew_any n0 m0 w2).mono ?_
  rintro e w3 ⟨r0, rfl, hb3, hR3⟩
  have HP := Lib.hid (pat_new HC.out hb3 hR3)
  clear hb3 hR3 HC
  go_wp2_with (refine wpList_store_row rfl 51 _ _ rfl w3.heap.size _ rfl rfl 51 zero22 (heap_alloc_new w3 _) rinfo rfl (RF.ones _) ?_)
  refine (HE1.out _).mono ?_
  rintro e w4 ⟨rfl, rfl⟩
  clear HE1
  go_wp2_with fail
  change Code.wp _ _ _ _ ((w3.alloc (.cells zero22 51)).setRow w3.heap.size r0.cells)
  have HPQ := Lib.hid (show (RS.new (placesOf n0) (wordsOf m0)).P = placesOf n0 ∧ (RS.new (placesOf n0) (wordsOf m0)).W = wordsOf m0 from ⟨rfl, rfl⟩)
  obtain ⟨X0, Y0, HP⟩ : ∃ X0 Y0, Hid (PAt w ((w3.alloc (.cells zero22 51)).setRow w3.heap.size r0.cells) b mb lb w3.heap.size X0 Y0 r0 (RS.new (placesOf n0) (wordsOf m0)) (RS.new (placesOf n0) (wordsOf m0))) := ⟨_, _, HP⟩
  generalize (w3.alloc (.cells zero22 51)).setRow w3.heap.size r0.cells = wL at *
  generalize RS.new (placesOf n0) (wordsOf m0) = s0 at *
  generalize w3.heap.size = x at *
  go_loopw [9] (fun i wx => ∃ (k : Nat) (X Y : Nat → Prop) (r : RF) (s : RS), k ≤ e1 ∧ i = .int .i64 k ∧ PAt w wx b mb lb x X Y r s s ∧ s.P = placesOf n0 ∧ s.W = wordsOf m0) (fun i _ => e1 - (intOf i).toNat)
  case atStart => exact ⟨0, X0, Y0, r0, s0, Nat.zero_le _, rfl, HP.out, HPQ.out.1, HPQ.out.2⟩
  case round =>
    clear HP HPQ
    obtain ⟨k, X, Y, r, s, hk, rfl, hP, hsP, hsW⟩ := hrel
    have HP := Lib.hid hP
    have HS := Lib.hid (And.intro hsP hsW)
    clear hP hsP hsW
    by_cases hlt : k < e1
    · obtain rfl : A1 = some ⟨bs1, off1, none⟩ := HS1.out.at_.resolve_right (by omega)
      obtain ⟨A', n', c', l8, hcl, hl8, hone⟩ := HS1.out.one k hlt
      have HONE := Lib.hid hone
      obtain ⟨q0, q1, q2, -⟩ := hone _ HP.out.c.bel
      have b1' : (k : Int) < (e1 : Int) := by omega
      have b0 : (0 : Int) ≤ (k : Int) := by omega
      have HWS := Lib.hid (fun w' => words_step (K1 k) (N1 k) A' n' c' w' hcl)
      have HKS := Lib.hid (fun w' => kind_step (K1 k) (N1 k) (.slice A' n' c') w')
      have hkd := kindOf_bd (K1 k)
      clear hone
      generalize min n' 8 = n8 at *
      generalize kindOf (K1 k) = kd at *
      go_wp2_with fail
      refine (HKS.out _).mono ?_
      rintro e w5 ⟨rfl, hb⟩
      have hz := Blk.new wr 46 #[.int .i64 (K1 k), .int .i64 (N1 k), .slice A' n' c']
      have hba : Below wr.heap.size wr (wr.alloc (.cells #[.int .i64 (K1 k), .int .i64 (N1 k), .slice A' n' c'] 46)) := below_alloc (Nat.le_refl _) _
      have HZ := Lib.hid (hz.below hb hz.lt)
      have HP5 := Lib.hid ((HP.out.go hba).go hb)
      have hxz : x < wr.heap.size := HP.out.k.lt
      have hz5 : wr.heap.size < w5.heap.size := HZ.out.lt
      clear hb hz hba HP q0 q1 q2
      obtain ⟨X5, Y5, HP5⟩ : ∃ X5 Y5, Hid (PAt w w5 b mb lb x X5 Y5 r s s) := ⟨_, _, HP5⟩
      generalize wr.heap.size = z at *
      have c0 : w5.cell? ⟨z, 0, none⟩ = some (.int .i64 (K1 k)) := (HZ.out.cell 0).trans rfl
      have c1 : w5.cell? ⟨z, 1, none⟩ = some (.int .i64 (N1 k)) := (HZ.out.cell 1).trans rfl
      have c2 : w5.cell? ⟨z, 2, none⟩ = some (.slice A' n' c') := (HZ.out.cell 2).trans rfl
      go_upto_block 2 with (fail)
      go_cut [11] (fun v wx => v = .bool true ∧ ∃ X Y r s, PAt w wx b mb lb x X Y r s s ∧ s.P = placesOf n0 ∧ s.W = wordsOf m0)
      case first =>
        rcases (show kd = 0 ∨ kd = 1 ∨ (2 ≤ kd ∧ kd ≤ 6) ∨ kd = 7 ∨ kd = 8 by omega) with rfl | rfl | hkm | rfl | rfl
        · as_aux_lemma =>
            go_upto_region 12 with (fail)
            go_cut [12, 13] (fun p f wx => ∃ (z' : Nat) (X Y : Nat → Prop) (r' : RF), p = .pointer (some ⟨z', 0, none⟩) ∧ f = .int .i64 (s.pushR l8).2 ∧ Below w5.heap.size w5 wx ∧ Told w wx b mb lb x z' X Y r r' r'.cells s (s.pushR l8).1)
            case first =>
              go_wp2_with fail
              refine wp_region_held_drew (S := fun w' => Below w5.heap.size w5 w') rfl (Below.refl _ w5).drew fun hS => ?_
              refine wpAnyH_take (i := 0) (v := .agg r.cells) rfl (by kernel_rfl) (by kernel_rfl) (by kernel_rfl) (fun _ _ _ h => h) (Or.inl ⟨by kernel_rfl, fun w' hS' => yields_row 51 _ rfl x rfl (HP5.out.k.below hS' HP5.out.k.lt) Tryd.underlying51 rfl rinfo⟩) hS ?_
              refine wpAnyH_take (i := 1) (v := .agg #[.int .i64 (K1 k), .int .i64 (N1 k), .slice A' n' c']) rfl (by kernel_rfl) (by kernel_rfl) (by kernel_rfl) (fun _ _ _ h => h) (Or.inl ⟨by kernel_rfl, fun w' hS' => yields_row 46 _ rfl z rfl (HZ.out.below hS' HZ.out.lt) Tryd.underlying46 rfl (by kernel_rfl)⟩) hS ?_
              have HPD := Lib.hid (HP5.out.go (Below.refl _ w5).drew)
              refine wpAnyH_ready (rs := [2, 7]) (by kernel_rfl) (by simp) ?_
              refine AllReadyH.cons rfl (fun K hK => ?_) (AllReadyH.cons rfl (fun K hK => ?_) AllReadyH.nil)
              · go_simp
                refine (HWS.out _).mono ?_
                rintro e wm ⟨rfl, hbm⟩
                have HPDm := Lib.hid (HPD.out.go hbm)
                refine hK.out _ _ (hS.trans (hbm.mono hS.size)) fun hSm => ?_
                clear hK hbm
                refine wpAnyH_ready (rs := [3, 7]) (by kernel_rfl) (by simp) ?_
                refine AllReadyH.cons rfl (fun K hK => ?_) (AllReadyH.cons rfl (fun K hK => ?_) AllReadyH.nil)
                · go_simp
                  obtain ⟨-, -, -, hI8⟩ := HONE.out _ HPDm.out.c.bel
                  refine (refpush_any HPDm.out.ri HPDm.out.c.ok hI8 (by omega)).mono ?_
                  rintro e wc ⟨r', rfl, hbc, hRc⟩
                  refine hK.out _ _ (hSm.trans (hbc.mono hSm.size)) fun hSc => ?_
                  clear hK
                  refine wpAnyH_take (i := 4) (v := .tuple #[RF.v r', .int .i64 (s.pushR l8).2]) rfl (by kernel_rfl) (by kernel_rfl) (by kernel_rfl) (fun _ _ _ h => h) (Or.inl ⟨by kernel_rfl, fun w' _ => by kernel_rfl⟩) hSc ?_
                  refine wpAnyH_take (i := 5) (v := RF.v r') rfl (by kernel_rfl) (by kernel_rfl) (by kernel_rfl) (fun _ _ _ h => h) (Or.inl ⟨by kernel_rfl, fun w' _ => by kernel_rfl⟩) hSc ?_
                  refine wpAnyH_take (i := 6) (v := .int .i64 (s.pushR l8).2) rfl (by kernel_rfl) (by kernel_rfl) (by kernel_rfl) (fun _ _ _ h => h) (Or.inl ⟨by kernel_rfl, fun w' _ => by kernel_rfl⟩) hSc ?_
                  refine wpAnyH_ready (rs := [7]) (by kernel_rfl) (by simp) ?_
                  refine AllReadyH.cons rfl (fun K hK => ?_) AllReadyH.nil
                  go_simp
                  have HT := Lib.hid (HPDm.out.told_late (zs := zero22) hbc hRc rfl)
                  refine hK.out _ _ (hSc.trans (below_alloc hSc.size _)) fun hSd => ?_
                  clear hK
                  refine wpAnyH_ready (rs := [8]) (by kernel_rfl) (by simp) ?_
                  refine AllReadyH.cons rfl (fun K hK => ?_) AllReadyH.nil
                  rw [if_pos (by kernel_rfl)]
                  refine wp_store_row 51 _ _ rfl (wc.heap.size) r'.cells (by kernel_rfl) (by kernel_rfl) 51 _ HT.out.v.zz rinfo HT.out.v.hz (RF.ones _) ?_
                  refine hK.out _ _ (below_setRow hSd hSc.size _) fun hSe => ?_
                  clear hK
                  refine wpAnyH_take (i := 9) (v := .int .i64 (s.pushR l8).2) rfl (by kernel_rfl) (by kernel_rfl) (by kernel_rfl) (fun _ _ _ h => h) (Or.inl ⟨by kernel_rfl, fun w' _ => by kernel_rfl⟩) hSe ?_
                  refine wpAnyH_done (by kernel_rfl) ?_ _
                  go_simp
                  go_wp2
                  go_meet
                  exact ⟨_, _, _, _, rfl, rfl, hSe, HT.out.put⟩
                · go_simp
                  have HPDma := Lib.hid (HPDm.out.var (zs := zero22) rfl)
                  obtain ⟨hPa, hVa⟩ := HPDma.out
                  have HPDmb := Lib.hid hPa
                  have HVb := Lib.hid hVa
                  clear hPa hVa HPDma
                  refine hK.out _ _ (hSm.trans (below_alloc hSm.size _)) fun hSa => ?_
                  clear hK
                  refine wpAnyH_ready (rs := [3]) (by kernel_rfl) (by simp) ?_
                  refine AllReadyH.cons rfl (fun K hK => ?_) AllReadyH.nil
                  go_simp
                  obtain ⟨-, -, -, hI8⟩ := HONE.out _ HPDmb.out.c.bel
                  refine (refpush_any HPDmb.out.ri HPDmb.out.c.ok hI8 (by omega)).mono ?_
                  rintro e wc ⟨r', rfl, hbc, hRc⟩
                  refine hK.out _ _ (hSa.trans (hbc.mono hSa.size)) fun hSc => ?_
                  clear hK
                  have HT := Lib.hid (HPDmb.out.told HVb.out hbc hRc)
                  refine wpAnyH_take (i := 4) (v := .tuple #[RF.v r', .int .i64 (s.pushR l8).2]) rfl (by kernel_rfl) (by kernel_rfl) (by kernel_rfl) (fun _ _ _ h => h) (Or.inl ⟨by kernel_rfl, fun w' _ => by kernel_rfl⟩) hSc ?_
                  refine wpAnyH_take (i := 6) (v := .int .i64 (s.pushR l8).2) rfl (by kernel_rfl) (by kernel_rfl) (by kernel_rfl) (fun _ _ _ h => h) (Or.inl ⟨by kernel_rfl, fun w' _ => by kernel_rfl⟩) hSc ?_
                  refine wpAnyH_ready (rs := [5]) (by kernel_rfl) (by simp) ?_
                  refine AllReadyH.cons rfl (fun K hK => ?_) AllReadyH.nil
                  go_simp
                  refine hK.out _ _ hSc fun hSf => ?_
                  clear hK
                  refine wpAnyH_ready (rs := [8]) (by kernel_rfl) (by simp) ?_
                  refine AllReadyH.cons rfl (fun K hK => ?_) AllReadyH.nil
                  rw [if_pos (by kernel_rfl)]
                  refine wp_store_row 51 _ _ rfl (wm.heap.size) r'.cells (by kernel_rfl) (by kernel_rfl) 51 _ HT.out.v.zz rinfo HT.out.v.hz (RF.ones _) ?_
                  refine hK.out _ _ (below_setRow hSc hSm.size _) fun hSe => ?_
                  clear hK
                  refine wpAnyH_take (i := 9) (v := .int .i64 (s.pushR l8).2) rfl (by kernel_rfl) (by kernel_rfl) (by kernel_rfl) (fun _ _ _ h => h) (Or.inl ⟨by kernel_rfl, fun w' _ => by kernel_rfl⟩) hSe ?_
                  refine wpAnyH_done (by kernel_rfl) ?_ _
                  go_simp
                  go_wp2
                  go_meet
                  exact ⟨_, _, _, _, rfl, rfl, hSe, HT.out.put⟩
              · go_simp
                have HPDa := Lib.hid (HPD.out.var (zs := zero22) rfl)
                obtain ⟨hPa, hVa⟩ := HPDa.out
                have HPDb := Lib.hid hPa
                have HVb := Lib.hid hVa
                clear hPa hVa HPDa
                refine hK.out _ _ (hS.trans (below_alloc hS.size _)) fun hSa => ?_
                clear hK
                refine wpAnyH_ready (rs := [2]) (by kernel_rfl) (by simp) ?_
                refine AllReadyH.cons rfl (fun K hK => ?_) AllReadyH.nil
                go_simp
                refine (HWS.out _).mono ?_
                rintro e wm ⟨rfl, hbm⟩
                have HPDbm := Lib.hid (HPDb.out.go hbm)
                have HVbm := Lib.hid (HVb.out.go hbm)
                refine hK.out _ _ (hSa.trans (hbm.mono hSa.size)) fun hSm => ?_
                clear hK hbm
                refine wpAnyH_ready (rs := [3]) (by kernel_rfl) (by simp) ?_
                refine AllReadyH.cons rfl (fun K hK => ?_) AllReadyH.nil
                go_simp
                obtain ⟨-, -, -, hI8⟩ := HONE.out _ HPDbm.out.c.bel
                refine (refpush_any HPDbm.out.ri HPDbm.out.c.ok hI8 (by omega)).mono ?_
                rintro e wc ⟨r', rfl, hbc, hRc⟩
                refine hK.out _ _ (hSm.trans (hbc.mono hSm.size)) fun hSc => ?_
                clear hK
                have HT := Lib.hid (HPDbm.out.told HVbm.out hbc hRc)
                refine wpAnyH_take (i := 4) (v := .tuple #[RF.v r', .int .i64 (s.pushR l8).2]) rfl (by kernel_rfl) (by kernel_rfl) (by kernel_rfl) (fun _ _ _ h => h) (Or.inl ⟨by kernel_rfl, fun w' _ => by kernel_rfl⟩) hSc ?_
                refine wpAnyH_take (i := 6) (v := .int .i64 (s.pushR l8).2) rfl (by kernel_rfl) (by kernel_rfl) (by kernel_rfl) (fun _ _ _ h => h) (Or.inl ⟨by kernel_rfl, fun w' _ => by kernel_rfl⟩) hSc ?_
                refine wpAnyH_ready (rs := [5]) (by kernel_rfl) (by simp) ?_
                refine AllReadyH.cons rfl (fun K hK => ?_) AllReadyH.nil
                go_simp
                refine hK.out _ _ hSc fun hSf => ?_
                clear hK
                refine wpAnyH_ready (rs := [8]) (by kernel_rfl) (by simp) ?_
                refine AllReadyH.cons rfl (fun K hK => ?_) AllReadyH.nil
                rw [if_pos (by kernel_rfl)]
                refine wp_store_row 51 _ _ rfl (w5.drew.heap.size) r'.cells (by kernel_rfl) (by kernel_rfl) 51 _ HT.out.v.zz rinfo HT.out.v.hz (RF.ones _) ?_
                refine hK.out _ _ (below_setRow hSc hS.size _) fun hSe => ?_
                clear hK
                refine wpAnyH_take (i := 9) (v := .int .i64 (s.pushR l8).2) rfl (by kernel_rfl) (by kernel_rfl) (by kernel_rfl) (fun _ _ _ h => h) (Or.inl ⟨by kernel_rfl, fun w' _ => by kernel_rfl⟩) hSe ?_
                refine wpAnyH_done (by kernel_rfl) ?_ _
                go_simp
                go_wp2
                go_meet
                exact ⟨_, _, _, _, rfl, rfl, hSe, HT.out.put⟩
            case rest =>
              obtain ⟨z', X6, Y6, r', rfl, rfl, hb6, hT⟩ := hcut
              have hZ6 : Blk (wc.setRow x r'.cells) z 46 #[.int .i64 (K1 k), .int .i64 (N1 k), .slice A' n' c'] :=
                (HZ.out.below hb6 HZ.out.lt).of (setRow_other _ _ _ _ (Ne.symm (Nat.ne_of_lt hxz)))
              have d0 : (wc.setRow x r'.cells).cell? ⟨z, 0, none⟩ = some (.int .i64 (K1 k)) := (hZ6.cell 0).trans rfl
              have d1 : (wc.setRow x r'.cells).cell? ⟨z, 1, none⟩ = some (.int .i64 (N1 k)) := (hZ6.cell 1).trans rfl
              have d2 : (wc.setRow x r'.cells).cell? ⟨z, 2, none⟩ = some (.slice A' n' c') := (hZ6.cell 2).trans rfl
              have HT := Lib.hid hT
              have HP6 := Lib.hid hT.pat
              clear hT hb6 hZ6 c0 c1 c2 HP5
              go_wp2_with (first
                | (refine wpList_load_row rfl 51 _ rfl z' rfl 51 _ (0, 0) _ HT.out.v.zz Tryd.underlying51 rfl rinfo ?_)
                | (refine wpList_store_row rfl 51 _ _ rfl x _ rfl rfl 51 r.cells HT.out.k rinfo rfl (RF.ones _) ?_))
              refine (HWS.out _).mono ?_
              rintro e w7 ⟨rfl, hb7⟩
              have HP7 := Lib.hid (HP6.out.go hb7)
              obtain ⟨-, -, -, hI8⟩ := HONE.out w7 HP7.out.c.bel
              have HO := Lib.hid (ctx_pushR HP7.out.c hI8 (by omega))
              clear hb7 hI8 HP6 HT d0 d1 d2 HWS HKS
              go_wp2_with fail
              refine HO.out.mono ?_
              rintro e w8 ⟨rfl, hC8, hK8⟩
              have HP8 := Lib.hid (HP7.out.ring hC8 hK8)
              have HS8 := Lib.hid (show (s.pushR l8).1.P = placesOf n0 ∧ (s.pushR l8).1.W = wordsOf m0 from ⟨(pushR_P s l8).1.trans HS.out.1, (pushR_P s l8).2.trans HS.out.2⟩)
              clear hC8 hK8 HO HP7
              go_wp2_with fail
              go_meet
              exact ⟨by simp, _, _, _, _, HP8.out, HS8.out⟩
        · as_aux_lemma =>
            go_wp2_with (refine wpList_load_row rfl 51 _ rfl x rfl 51 _ (0, 0) _ HP5.out.k Tryd.underlying51 rfl rinfo ?_)
            refine (refpop_in HP5.out.ri).mono ?_
            rintro e w6 ⟨r', rfl, hb6, hR6⟩
            have HP6 := Lib.hid (HP5.out.pass (zs := zero22) hb6 hR6)
            have HM := Lib.hid (HP5.out.mid (r' := r') (zs := zero22) hb6)
            go_wp2_with (first
              | (refine wpList_load_row rfl 51 _ rfl w6.heap.size rfl 51 _ (0, 0) _ HM.out.1 Tryd.underlying51 rfl rinfo ?_)
              | (refine wpList_store_row rfl 51 _ _ rfl w6.heap.size _ rfl rfl 51 zero22 (heap_alloc_new w6 _) rinfo rfl (RF.ones _) ?_)
              | (refine wpList_store_row rfl 51 _ _ rfl x _ rfl rfl 51 r.cells HM.out.2 rinfo rfl (RF.ones _) ?_))
            have HO := Lib.hid (ctx_popR HP6.out.c)
            refine HO.out.mono ?_
            rintro e w7 ⟨rfl, hC7, hK7⟩
            have HP7 := Lib.hid (HP6.out.ring hC7 hK7)
            have HS7 := Lib.hid (show s.popR.1.P = placesOf n0 ∧ s.popR.1.W = wordsOf m0 from ⟨(popR_P s).1.trans HS.out.1, (popR_P s).2.trans HS.out.2⟩)
            clear hC7 hK7 HO HP6 HM hb6 hR6 HP5
            go_wp2_with fail
            go_meet
            exact ⟨by simp, _, _, _, _, HP7.out, HS7.out⟩
        · as_aux_lemma =>
            have kb0 : (kd == (0 : Int)) = false := by simp; omega
            have kb1 : (kd == (1 : Int)) = false := by simp; omega
            go_upto_if 75 with (fail)
            go_cut [75] (fun v wx => v = .bool true ∧ w5 = wx)
            case first =>
              clear kb0 kb1
              have hk5 : kd = 2 ∨ kd = 3 ∨ kd = 4 ∨ kd = 5 ∨ kd = 6 := by omega
              clear hkm hkd HKS
              rcases hk5 with rfl | rfl | rfl | rfl | rfl
              all_goals
                go_wp2_with fail
                go_meet
                exact ⟨rfl, rfl⟩
            case rest =>
              obtain ⟨rfl, hw5⟩ := hcut
              subst hw5
              clear kb0 kb1
              obtain ⟨bb, hbb⟩ : ∃ bb, bb = decide (kd < (5 : Int)) := ⟨_, rfl⟩
              obtain ⟨q, hq⟩ : ∃ q, q = s.step bb := ⟨_, rfl⟩
              have HRS := Lib.hid (show ∀ (wb : World) {Y : Nat → Prop}, RefIn wb Y r s → s.ok → (∀ k, Y k → k < wb.heap.size) → Calls Tryd.prog 30 #[r.v, .bool bb] wb fun e w' => ∃ r' A c, e = .returned (.tuple #[RF.v r', .slice A q.2.1.length c, .bool q.2.2.1, .int .i64 q.2.2.2]) ∧ Below wb.heap.size wb w' ∧ RefIn w' (newX Y wb w') r' q.1 ∧ IntsX w' (newX Y wb w') (.slice A q.2.1.length c) q.2.1 from fun wb Y h hk hX => by
                rw [hq]; exact refstep_any h hk hX bb)
              have HQ := Lib.hid hq
              have HBB := Lib.hid hbb
              clear hq hbb
              go_upto_region 24 with (fail)
              go_cut [16, 17, 18, 19] (fun p l d f wx => ∃ (z' : Nat) (X Y : Nat → Prop) (r' : RF) (A2 : Option Addr) (c2' : Nat), p = .pointer (some ⟨z', 0, none⟩) ∧ l = .slice A2 q.2.1.length c2' ∧ d = .bool q.2.2.1 ∧ f = .int .i64 q.2.2.2 ∧ Below w5.heap.size w5 wx ∧ Told w wx b mb lb x z' X Y r r' r'.cells s q.1 ∧ IntsX wx Y (.slice A2 q.2.1.length c2') q.2.1)
              case first =>
                go_wp2_with fail
                refine wp_region_held_drew (S := fun w' => Below w5.heap.size w5 w') rfl (Below.refl _ w5).drew fun hS => ?_
                refine wpAnyH_take (i := 0) (v := .agg r.cells) rfl (by kernel_rfl) (by kernel_rfl) (by kernel_rfl) (fun _ _ _ h => h) (Or.inl ⟨by kernel_rfl, fun w' hS' => yields_row 51 _ rfl x rfl (HP5.out.k.below hS' HP5.out.k.lt) Tryd.underlying51 rfl rinfo⟩) hS ?_
                refine wpAnyH_take (i := 1) (v := .agg #[.int .i64 (K1 k), .int .i64 (N1 k), .slice A' n' c']) rfl (by kernel_rfl) (by kernel_rfl) (by kernel_rfl) (fun _ _ _ h => h) (Or.inl ⟨by kernel_rfl, fun w' hS' => yields_row 46 _ rfl z rfl (HZ.out.below hS' HZ.out.lt) Tryd.underlying46 rfl (by kernel_rfl)⟩) hS ?_
                have HPD := Lib.hid (HP5.out.go (Below.refl _ w5).drew)
                refine wpAnyH_ready (rs := [2, 10]) (by kernel_rfl) (by simp) ?_
                refine AllReadyH.cons rfl (fun K hK => ?_) (AllReadyH.cons rfl (fun K hK => ?_) AllReadyH.nil)
                · go_simp
                  refine (HKS.out _).mono ?_
                  rintro e wm ⟨rfl, hbm⟩
                  have HPDm := Lib.hid (HPD.out.go hbm)
                  refine hK.out _ _ (hS.trans (hbm.mono hS.size)) fun hSm => ?_
                  clear hK hbm
                  refine wpAnyH_take (i := 3) (v := .bool bb) rfl (by kernel_rfl) (by kernel_rfl) (by kernel_rfl) (fun _ _ _ h => h) (Or.inl ⟨by kernel_rfl, fun w' _ => by rw [HBB.out]; go_simp⟩) hSm ?_
                  refine wpAnyH_ready (rs := [4, 10]) (by kernel_rfl) (by simp) ?_
                  refine AllReadyH.cons rfl (fun K hK => ?_) (AllReadyH.cons rfl (fun K hK => ?_) AllReadyH.nil)
                  · go_simp
                    refine (HRS.out _ HPDm.out.ri HPDm.out.c.ok (fun k e => HPDm.out.lt _ (HPDm.out.yx k e))).mono ?_
                    rintro e wc ⟨r', A2, c2', rfl, hbc, hRc, hLc⟩
                    refine hK.out _ _ (hSm.trans (hbc.mono hSm.size)) fun hSc => ?_
                    clear hK
                    refine wpAnyH_take (i := 5) (v := .tuple #[RF.v r', .slice A2 q.2.1.length c2', .bool q.2.2.1, .int .i64 q.2.2.2]) rfl (by kernel_rfl) (by kernel_rfl) (by kernel_rfl) (fun _ _ _ h => h) (Or.inl ⟨by kernel_rfl, fun w' _ => by kernel_rfl⟩) hSc ?_
                    refine wpAnyH_take (i := 6) (v := RF.v r') rfl (by kernel_rfl) (by kernel_rfl) (by kernel_rfl) (fun _ _ _ h => h) (Or.inl ⟨by kernel_rfl, fun w' _ => by kernel_rfl⟩) hSc ?_
                    refine wpAnyH_take (i := 7) (v := .slice A2 q.2.1.length c2') rfl (by kernel_rfl) (by kernel_rfl) (by kernel_rfl) (fun _ _ _ h => h) (Or.inl ⟨by kernel_rfl, fun w' _ => by kernel_rfl⟩) hSc ?_
                    refine wpAnyH_take (i := 8) (v := .bool q.2.2.1) rfl (by kernel_rfl) (by kernel_rfl) (by kernel_rfl) (fun _ _ _ h => h) (Or.inl ⟨by kernel_rfl, fun w' _ => by kernel_rfl⟩) hSc ?_
                    refine wpAnyH_take (i := 9) (v := .int .i64 q.2.2.2) rfl (by kernel_rfl) (by kernel_rfl) (by kernel_rfl) (fun _ _ _ h => h) (Or.inl ⟨by kernel_rfl, fun w' _ => by kernel_rfl⟩) hSc ?_
                    refine wpAnyH_ready (rs := [10]) (by kernel_rfl) (by simp) ?_
                    refine AllReadyH.cons rfl (fun K hK => ?_) AllReadyH.nil
                    go_simp
                    have HT := Lib.hid (HPDm.out.told_late (zs := zero22) hbc hRc rfl)
                    refine hK.out _ _ (hSc.trans (below_alloc hSc.size _)) fun hSd => ?_
                    clear hK
                    refine wpAnyH_ready (rs := [11]) (by kernel_rfl) (by simp) ?_
                    refine AllReadyH.cons rfl (fun K hK => ?_) AllReadyH.nil
                    rw [if_pos (by kernel_rfl)]
                    refine wp_store_row 51 _ _ rfl (wc.heap.size) r'.cells (by kernel_rfl) (by kernel_rfl) 51 _ HT.out.v.zz rinfo HT.out.v.hz (RF.ones _) ?_
                    refine hK.out _ _ (below_setRow hSd hSc.size _) fun hSe => ?_
                    clear hK
                    refine wpAnyH_take (i := 12) (v := .slice A2 q.2.1.length c2') rfl (by kernel_rfl) (by kernel_rfl) (by kernel_rfl) (fun _ _ _ h => h) (Or.inl ⟨by kernel_rfl, fun w' _ => by kernel_rfl⟩) hSe ?_
                    refine wpAnyH_take (i := 13) (v := .bool q.2.2.1) rfl (by kernel_rfl) (by kernel_rfl) (by kernel_rfl) (fun _ _ _ h => h) (Or.inl ⟨by kernel_rfl, fun w' _ => by kernel_rfl⟩) hSe ?_
                    refine wpAnyH_take (i := 14) (v := .int .i64 q.2.2.2) rfl (by kernel_rfl) (by kernel_rfl) (by kernel_rfl) (fun _ _ _ h => h) (Or.inl ⟨by kernel_rfl, fun w' _ => by kernel_rfl⟩) hSe ?_
                    refine wpAnyH_done (by kernel_rfl) ?_ _
                    go_simp
                    go_wp2
                    go_meet
                    exact ⟨_, _, _, _, _, _, rfl, rfl, rfl, rfl, hSe, HT.out.put, HT.out.keepX (hLc.below (below_alloc (Nat.le_refl _) _))⟩
                  · go_simp
                    have HPDma := Lib.hid (HPDm.out.var (zs := zero22) rfl)
                    obtain ⟨hPa, hVa⟩ := HPDma.out
                    have HPDmb := Lib.hid hPa
                    have HVb := Lib.hid hVa
                    clear hPa hVa HPDma
                    refine hK.out _ _ (hSm.trans (below_alloc hSm.size _)) fun hSa => ?_
                    clear hK
                    refine wpAnyH_ready (rs := [4]) (by kernel_rfl) (by simp) ?_
                    refine AllReadyH.cons rfl (fun K hK => ?_) AllReadyH.nil
                    go_simp
                    refine (HRS.out _ HPDmb.out.ri HPDmb.out.c.ok (fun k e => HPDmb.out.lt _ (HPDmb.out.yx k e))).mono ?_
                    rintro e wc ⟨r', A2, c2', rfl, hbc, hRc, hLc⟩
                    refine hK.out _ _ (hSa.trans (hbc.mono hSa.size)) fun hSc => ?_
                    clear hK
                    have HT := Lib.hid (HPDmb.out.told HVb.out hbc hRc)
                    refine wpAnyH_take (i := 5) (v := .tuple #[RF.v r', .slice A2 q.2.1.length c2', .bool q.2.2.1, .int .i64 q.2.2.2]) rfl (by kernel_rfl) (by kernel_rfl) (by kernel_rfl) (fun _ _ _ h => h) (Or.inl ⟨by kernel_rfl, fun w' _ => by kernel_rfl⟩) hSc ?_
                    refine wpAnyH_take (i := 7) (v := .slice A2 q.2.1.length c2') rfl (by kernel_rfl) (by kernel_rfl) (by kernel_rfl) (fun _ _ _ h => h) (Or.inl ⟨by kernel_rfl, fun w' _ => by kernel_rfl⟩) hSc ?_
                    refine wpAnyH_take (i := 8) (v := .bool q.2.2.1) rfl (by kernel_rfl) (by kernel_rfl) (by kernel_rfl) (fun _ _ _ h => h) (Or.inl ⟨by kernel_rfl, fun w' _ => by kernel_rfl⟩) hSc ?_
                    refine wpAnyH_take (i := 9) (v := .int .i64 q.2.2.2) rfl (by kernel_rfl) (by kernel_rfl) (by kernel_rfl) (fun _ _ _ h => h) (Or.inl ⟨by kernel_rfl, fun w' _ => by kernel_rfl⟩) hSc ?_
                    refine wpAnyH_ready (rs := [6]) (by kernel_rfl) (by simp) ?_
                    refine AllReadyH.cons rfl (fun K hK => ?_) AllReadyH.nil
                    go_simp
                    refine hK.out _ _ hSc fun hSf => ?_
                    clear hK
                    refine wpAnyH_ready (rs := [11]) (by kernel_rfl) (by simp) ?_
                    refine AllReadyH.cons rfl (fun K hK => ?_) AllReadyH.nil
                    rw [if_pos (by kernel_rfl)]
                    refine wp_store_row 51 _ _ rfl (wm.heap.size) r'.cells (by kernel_rfl) (by kernel_rfl) 51 _ HT.out.v.zz rinfo HT.out.v.hz (RF.ones _) ?_
                    refine hK.out _ _ (below_setRow hSc hSm.size _) fun hSe => ?_
                    clear hK
                    refine wpAnyH_take (i := 12) (v := .slice A2 q.2.1.length c2') rfl (by kernel_rfl) (by kernel_rfl) (by kernel_rfl) (fun _ _ _ h => h) (Or.inl ⟨by kernel_rfl, fun w' _ => by kernel_rfl⟩) hSe ?_
                    refine wpAnyH_take (i := 13) (v := .bool q.2.2.1) rfl (by kernel_rfl) (by kernel_rfl) (by kernel_rfl) (fun _ _ _ h => h) (Or.inl ⟨by kernel_rfl, fun w' _ => by kernel_rfl⟩) hSe ?_
                    refine wpAnyH_take (i := 14) (v := .int .i64 q.2.2.2) rfl (by kernel_rfl) (by kernel_rfl) (by kernel_rfl) (fun _ _ _ h => h) (Or.inl ⟨by kernel_rfl, fun w' _ => by kernel_rfl⟩) hSe ?_
                    refine wpAnyH_done (by kernel_rfl) ?_ _
                    go_simp
                    go_wp2
                    go_meet
                    exact ⟨_, _, _, _, _, _, rfl, rfl, rfl, rfl, hSe, HT.out.put, HT.out.keepX hLc⟩
                · go_simp
                  have HPDa := Lib.hid (HPD.out.var (zs := zero22) rfl)
                  obtain ⟨hPa, hVa⟩ := HPDa.out
                  have HPDb := Lib.hid hPa
                  have HVb := Lib.hid hVa
                  clear hPa hVa HPDa
                  refine hK.out _ _ (hS.trans (below_alloc hS.size _)) fun hSa => ?_
                  clear hK
                  refine wpAnyH_ready (rs := [2]) (by kernel_rfl) (by simp) ?_
                  refine AllReadyH.cons rfl (fun K hK => ?_) AllReadyH.nil
                  go_simp
                  refine (HKS.out _).mono ?_
                  rintro e wm ⟨rfl, hbm⟩
                  have HPDbm := Lib.hid (HPDb.out.go hbm)
                  have HVbm := Lib.hid (HVb.out.go hbm)
                  refine hK.out _ _ (hSa.trans (hbm.mono hSa.size)) fun hSm => ?_
                  clear hK hbm
                  refine wpAnyH_take (i := 3) (v := .bool bb) rfl (by kernel_rfl) (by kernel_rfl) (by kernel_rfl) (fun _ _ _ h => h) (Or.inl ⟨by kernel_rfl, fun w' _ => by rw [HBB.out]; go_simp⟩) hSm ?_
                  refine wpAnyH_ready (rs := [4]) (by kernel_rfl) (by simp) ?_
                  refine AllReadyH.cons rfl (fun K hK => ?_) AllReadyH.nil
                  go_simp
                  refine (HRS.out _ HPDbm.out.ri HPDbm.out.c.ok (fun k e => HPDbm.out.lt _ (HPDbm.out.yx k e))).mono ?_
                  rintro e wc ⟨r', A2, c2', rfl, hbc, hRc, hLc⟩
                  refine hK.out _ _ (hSm.trans (hbc.mono hSm.size)) fun hSc => ?_
                  clear hK
                  have HT := Lib.hid (HPDbm.out.told HVbm.out hbc hRc)
                  refine wpAnyH_take (i := 5) (v := .tuple #[RF.v r', .slice A2 q.2.1.length c2', .bool q.2.2.1, .int .i64 q.2.2.2]) rfl (by kernel_rfl) (by kernel_rfl) (by kernel_rfl) (fun _ _ _ h => h) (Or.inl ⟨by kernel_rfl, fun w' _ => by kernel_rfl⟩) hSc ?_
                  refine wpAnyH_take (i := 7) (v := .slice A2 q.2.1.length c2') rfl (by kernel_rfl) (by kernel_rfl) (by kernel_rfl) (fun _ _ _ h => h) (Or.inl ⟨by kernel_rfl, fun w' _ => by kernel_rfl⟩) hSc ?_
                  refine wpAnyH_take (i := 8) (v := .bool q.2.2.1) rfl (by kernel_rfl) (by kernel_rfl) (by kernel_rfl) (fun _ _ _ h => h) (Or.inl ⟨by kernel_rfl, fun w' _ => by kernel_rfl⟩) hSc ?_
                  refine wpAnyH_take (i := 9) (v := .int .i64 q.2.2.2) rfl (by kernel_rfl) (by kernel_rfl) (by kernel_rfl) (fun _ _ _ h => h) (Or.inl ⟨by kernel_rfl, fun w' _ => by kernel_rfl⟩) hSc ?_
                  refine wpAnyH_ready (rs := [6]) (by kernel_rfl) (by simp) ?_
                  refine AllReadyH.cons rfl (fun K hK => ?_) AllReadyH.nil
                  go_simp
                  refine hK.out _ _ hSc fun hSf => ?_
                  clear hK
                  refine wpAnyH_ready (rs := [11]) (by kernel_rfl) (by simp) ?_
                  refine AllReadyH.cons rfl (fun K hK => ?_) AllReadyH.nil
                  rw [if_pos (by kernel_rfl)]
                  refine wp_store_row 51 _ _ rfl (w5.drew.heap.size) r'.cells (by kernel_rfl) (by kernel_rfl) 51 _ HT.out.v.zz rinfo HT.out.v.hz (RF.ones _) ?_
                  refine hK.out _ _ (below_setRow hSc hS.size _) fun hSe => ?_
                  clear hK
                  refine wpAnyH_take (i := 12) (v := .slice A2 q.2.1.length c2') rfl (by kernel_rfl) (by kernel_rfl) (by kernel_rfl) (fun _ _ _ h => h) (Or.inl ⟨by kernel_rfl, fun w' _ => by kernel_rfl⟩) hSe ?_
                  refine wpAnyH_take (i := 13) (v := .bool q.2.2.1) rfl (by kernel_rfl) (by kernel_rfl) (by kernel_rfl) (fun _ _ _ h => h) (Or.inl ⟨by kernel_rfl, fun w' _ => by kernel_rfl⟩) hSe ?_
                  refine wpAnyH_take (i := 14) (v := .int .i64 q.2.2.2) rfl (by kernel_rfl) (by kernel_rfl) (by kernel_rfl) (fun _ _ _ h => h) (Or.inl ⟨by kernel_rfl, fun w' _ => by kernel_rfl⟩) hSe ?_
                  refine wpAnyH_done (by kernel_rfl) ?_ _
                  go_simp
                  go_wp2
                  go_meet
                  exact ⟨_, _, _, _, _, _, rfl, rfl, rfl, rfl, hSe, HT.out.put, HT.out.keepX hLc⟩
              case rest =>
                obtain ⟨z', X6, Y6, r', A2, c2', rfl, rfl, rfl, rfl, hb6, hT, hL⟩ := hcut
                have hL6 := hT.patX hL
                have HL6 := Lib.hid hL6
                clear hL hL6
                have hZ6 : Blk (wc.setRow x r'.cells) z 46 #[.int .i64 (K1 k), .int .i64 (N1 k), .slice A' n' c'] :=
                  (HZ.out.below hb6 HZ.out.lt).of (setRow_other _ _ _ _ (Ne.symm (Nat.ne_of_lt hxz)))
                have d0 : (wc.setRow x r'.cells).cell? ⟨z, 0, none⟩ = some (.int .i64 (K1 k)) := (hZ6.cell 0).trans rfl
                have d1 : (wc.setRow x r'.cells).cell? ⟨z, 1, none⟩ = some (.int .i64 (N1 k)) := (hZ6.cell 1).trans rfl
                have d2 : (wc.setRow x r'.cells).cell? ⟨z, 2, none⟩ = some (.slice A' n' c') := (hZ6.cell 2).trans rfl
                have HT := Lib.hid hT
                have HP6 := Lib.hid hT.pat
                clear hT hb6 hZ6 c0 c1 c2 HP5
                have hlq := step_len30 HP6.out.c.ok bb
                rw [← HQ.out] at hlq
                have HLK := Lib.hid hlq
                clear hlq
                go_wp2_with (first
                    | (refine wpList_load_row rfl 51 _ rfl z' rfl 51 _ (0, 0) _ HT.out.v.zz Tryd.underlying51 rfl rinfo ?_)
                    | (refine wpList_store_row rfl 51 _ _ rfl x _ rfl rfl 51 r.cells HT.out.k rinfo rfl (RF.ones _) ?_))
                refine (HKS.out _).mono ?_
                rintro e w7 ⟨rfl, hb7⟩
                have HP7 := Lib.hid (HP6.out.go hb7)
                have HL7 := Lib.hid (HL6.out.go hb7)
                have HO := Lib.hid (show Calls Tryd.prog 18 #[.pointer (some ⟨b, 0, none⟩), .bool bb] w7 fun e w' => ∃ A c, e = .returned (.tuple #[.slice A q.2.1.length c, .bool q.2.2.1, .int .i64 q.2.2.2]) ∧ Ctx w w' b mb lb (newX X6 (wc.setRow x r'.cells) w7) q.1 ∧ Kept (newX X6 (wc.setRow x r'.cells) w7) w7 w' ∧ IntsIn w' (.slice A q.2.1.length c) q.2.1 ∧ ∀ g, (Value.slice A q.2.1.length c).ownBlock = some g → w7.heap.size ≤ g from by rw [HQ.out]; exact ctx_step HP7.out.c bb)
                have hbd : decide (kd < (5 : Int)) = bb := HBB.out.symm
                clear hb7 HP6 HT HL6 d0 d1 d2 HKS
                go_wp2_with fail
                refine HO.out.mono ?_
                rintro e w8 ⟨A3, c3, rfl, hC8, hK8, hI8, -⟩
                have HP8 := Lib.hid (HP7.out.ring hC8 hK8)
                have HL8 := Lib.hid (HL7.out.keep (fun g hg => hK8 g (HP7.out.yx g hg)))
                have HSA := Lib.hid (same_yes HL8.out.ints hI8 HLK.out)
                have HS8 := Lib.hid (show q.1.P = placesOf n0 ∧ q.1.W = wordsOf m0 from by rw [HQ.out]; exact ⟨(step_P s _).1.trans HS.out.1, (step_P s _).2.trans HS.out.2⟩)
                clear hC8 hK8 HO HP7 HL7 hI8 HL8 HLK
                go_wp2_with fail
                refine HSA.out.mono ?_
                rintro e w9 ⟨rfl, nd, rfl⟩
                have HP9 := Lib.hid (HP8.out.go (below_drewN' _ nd))
                clear HSA HP8
                go_wp2_with fail
                go_meet
                exact ⟨by simp, _, _, _, _, HP9.out, HS8.out⟩
        · as_aux_lemma =>
            obtain ⟨dd, hdd⟩ : ∃ dd, dd = !decide ((if ((N1 k).tmod 2 == 0) = true then s.ia else s.oa) = 0) := ⟨_, rfl⟩
            have HC1 := Lib.hid (refdrop_in HP5.out.ri ((N1 k).tmod 2 == 0))
            rw [← hdd] at HC1
            have HDD := Lib.hid hdd
            clear hdd
            go_wp2_with (refine wpList_load_row rfl 51 _ rfl x rfl 51 _ (0, 0) _ HP5.out.k Tryd.underlying51 rfl rinfo ?_)
            refine HC1.out.mono ?_
            rintro e w6 ⟨r', rfl, hb6, hR6⟩
            have HP6 := Lib.hid (HP5.out.pass (zs := zero22) hb6 hR6)
            have HM := Lib.hid (HP5.out.mid (r' := r') (zs := zero22) hb6)
            have hz6 : Blk (((w6.alloc (.cells zero22 51)).setRow w6.heap.size r'.cells).setRow x r'.cells) z 46 #[.int .i64 (K1 k), .int .i64 (N1 k), .slice A' n' c'] :=
              (HZ.out.below hb6 hz5).of (by have := hb6.size; rw [setRow_other _ _ _ _ (by omega), setRow_other _ _ _ _ (by omega), Below.heap_alloc _ _ _ (by omega)])
            have d1 : (((w6.alloc (.cells zero22 51)).setRow w6.heap.size r'.cells).setRow x r'.cells).cell? ⟨z, 1, none⟩ = some (.int .i64 (N1 k)) := (hz6.cell 1).trans rfl
            clear hz6 HC1
            simp only [zero22] at d1
            go_wp2_with (first
              | (refine wpList_load_row rfl 51 _ rfl w6.heap.size rfl 51 _ (0, 0) _ HM.out.1 Tryd.underlying51 rfl rinfo ?_)
              | (refine wpList_store_row rfl 51 _ _ rfl w6.heap.size _ rfl rfl 51 zero22 (heap_alloc_new w6 _) rinfo rfl (RF.ones _) ?_)
              | (refine wpList_store_row rfl 51 _ _ rfl x _ rfl rfl 51 r.cells HM.out.2 rinfo rfl (RF.ones _) ?_))
            have HO := Lib.hid (ctx_drop HP6.out.c ((N1 k).tmod 2 == 0))
            rw [← HDD.out] at HO
            refine HO.out.mono ?_
            rintro e w7 ⟨rfl, hC7, hK7⟩
            have HP7 := Lib.hid (HP6.out.ring hC7 hK7)
            have HS7 := Lib.hid (show (s.dropped ((N1 k).tmod 2 == 0)).P = placesOf n0 ∧ (s.dropped ((N1 k).tmod 2 == 0)).W = wordsOf m0 from by
              cases ((N1 k).tmod 2 == 0)
              · exact HS.out
              · exact HS.out)
            clear hC7 hK7 HO HP6 HM hb6 hR6 HP5 d1
            go_wp2_with fail
            go_meet
            exact ⟨by simp, _, _, _, _, HP7.out, HS7.out⟩
        · as_aux_lemma =>
            by_cases h5 : ((N1 k).tmod 5 == 0) = true
            · go_wp2_with fail
              refine (refnew_any n0 m0 w5).mono ?_
              rintro e w6 ⟨r', rfl, hb6, hR6⟩
              have HP6 := Lib.hid (HP5.out.fresh hb6 hR6)
              have HM := Lib.hid (show Blk w6 x 51 r.cells from HP5.out.k.below hb6 HP5.out.k.lt)
              clear hb6 hR6 HP5
              go_wp2_with (refine wpList_store_row rfl 51 _ _ rfl x _ rfl rfl 51 r.cells HM.out rinfo rfl (RF.ones _) ?_)
              have HO := Lib.hid (ctx_reset HP6.out.c)
              rw [HS.out.1, HS.out.2] at HO
              refine HO.out.mono ?_
              rintro e w7 ⟨rfl, hC7, hK7⟩
              have HP7 := Lib.hid (HP6.out.ring hC7 hK7)
              clear hC7 hK7 HO HP6 HM
              go_wp2_with fail
              go_meet
              exact ⟨rfl, _, _, _, _, HP7.out, rfl, rfl⟩
            · have h5' : ((N1 k).tmod 5 == 0) = false := by simpa using h5
              clear h5
              go_wp2_with fail
              go_meet
              exact ⟨rfl, _, _, _, _, HP5.out, HS.out⟩
      case rest =>
        obtain ⟨rfl, X2, Y2, r2, s2, hP2, hs2P, hs2W⟩ := hcut
        have HP := Lib.hid hP2
        have HS2 := Lib.hid (And.intro hs2P hs2W)
        clear hP2 hs2P hs2W HWS HKS HONE HZ HP5 HS c0 c1 c2
        go_upto_region 36 with (fail)
        go_cut [179] (fun v wx => v = .bool false ∧ ∃ X Y, PAt w wx b mb lb x X Y r2 s2 s2)
        case first =>
          have HBU := Lib.hid (show ∀ w', Below wc.heap.size wc w' → Calls Tryd.prog 15 #[.pointer (some ⟨b, 0, none⟩), .bool true] w' fun e w'' => e = .returned (.bool r2.pu) ∧ w' = w'' from fun w' h => by
            rw [HP.out.ri.pu]; exact ctx_busy (HP.out.go h).c true)
          have HBO := Lib.hid (show ∀ w', Below wc.heap.size wc w' → Calls Tryd.prog 15 #[.pointer (some ⟨b, 0, none⟩), .bool false] w' fun e w'' => e = .returned (.bool r2.po) ∧ w' = w'' from fun w' h => by
            rw [HP.out.ri.po]; exact ctx_busy (HP.out.go h).c false)
          have HCO := Lib.hid (show ∀ w', Below wc.heap.size wc w' → Calls Tryd.prog 14 #[.pointer (some ⟨b, 0, none⟩)] w' fun e w'' => e = .returned (.int .i64 (dist s2.P s2.tl s2.hd)) ∧ Below w'.heap.size w' w'' from fun w' h => ctx_count (HP.out.go h).c)
          have HHE := Lib.hid (show ∀ w', Calls Tryd.prog 32 #[r2.v, .int .i64 r2.H, .int .i64 r2.T] w' fun e w'' => e = .returned (.int .i64 (dist s2.P s2.tl s2.hd)) ∧ Below w'.heap.size w' w'' from fun w' => by
            rw [HP.out.ri.H, HP.out.ri.T]; exact refheld_any r2 s2.P s2.hd s2.tl w' HP.out.ri.D HP.out.c.ok.p1 HP.out.c.ok.p8 HP.out.c.ok.h2 HP.out.c.ok.t2)
          have q12 : ∀ w', Below wc.heap.size wc w' → w'.cell? ⟨x, 12, none⟩ = some (.bool r2.pu) := fun w' h => ((HP.out.go h).k.cell 12).trans rfl
          have q13 : ∀ w', Below wc.heap.size wc w' → w'.cell? ⟨x, 13, none⟩ = some (.bool r2.po) := fun w' h => ((HP.out.go h).k.cell 13).trans rfl
          have q2 : ∀ w', Below wc.heap.size wc w' → w'.cell? ⟨x, 2, none⟩ = some (.int .i64 r2.H) := fun w' h => ((HP.out.go h).k.cell 2).trans rfl
          have q3 : ∀ w', Below wc.heap.size wc w' → w'.cell? ⟨x, 3, none⟩ = some (.int .i64 r2.T) := fun w' h => ((HP.out.go h).k.cell 3).trans rfl
          have hml : s2.mem.length ≤ 1073741824 := by
            have h1 := HP.out.c.ok.len
            have h2 : s2.P * s2.W ≤ 8 * 6 := Nat.mul_le_mul HP.out.c.ok.p8 HP.out.c.ok.w6
            omega
          have HML := Lib.hid hml
          clear hml
          go_wp2_with fail
          refine wp_region_held_drew (S := fun w' => Below wc.heap.size wc w') rfl (Below.refl _ wc).drew fun hS => ?_
          refine wpAnyH_take (i := 0) (v := .bool true) rfl (by kernel_rfl) (by kernel_rfl) (by kernel_rfl) (fun _ _ _ h => h) (Or.inl ⟨by kernel_rfl, fun w' _ => by kernel_rfl⟩) hS ?_
          refine wpAnyH_take (i := 1) (v := .bool false) rfl (by kernel_rfl) (by kernel_rfl) (by kernel_rfl) (fun _ _ _ h => h) (Or.inl ⟨by kernel_rfl, fun w' _ => by go_simp⟩) hS ?_
          refine wpAnyH_take (i := 2) (v := .bool false) rfl (by kernel_rfl) (by kernel_rfl) (by kernel_rfl) (fun _ _ _ h => h) (Or.inl ⟨by kernel_rfl, fun w' _ => by go_simp⟩) hS ?_
          refine wpAnyH_take (i := 3) (v := .pointer (some ⟨b, 0, none⟩)) rfl (by kernel_rfl) (by kernel_rfl) (by kernel_rfl) (fun _ _ _ h => h) (Or.inl ⟨by kernel_rfl, fun w' _ => by kernel_rfl⟩) hS ?_
          refine wpAnyH_take (i := 5) (v := .pointer (some ⟨x, 12, none⟩)) rfl (by kernel_rfl) (by kernel_rfl) (by kernel_rfl) (fun _ _ _ h => h) (Or.inl ⟨by kernel_rfl, fun w' _ => by kernel_rfl⟩) hS ?_
          refine wpAnyH_take (i := 6) (v := .bool r2.pu) rfl (by kernel_rfl) (by kernel_rfl) (by kernel_rfl) (fun _ _ _ h => h) (Or.inl ⟨by kernel_rfl, fun w' hS' => by have q := q12 w' hS'; go_simp⟩) hS ?_
          refine wpAnyH_ready (rs := [4]) (by kernel_rfl) (by simp) ?_
          refine AllReadyH.cons rfl (fun K hK => ?_) AllReadyH.nil
          go_simp
          refine (HBU.out _ hS).mono ?_
          rintro e _w ⟨rfl, rfl⟩
          refine hK.out _ _ hS fun hS1 => ?_
          clear hK
          refine wpAnyH_take (i := 7) (v := .bool false) rfl (by kernel_rfl) (by kernel_rfl) (by kernel_rfl) (fun _ _ _ h => h) (Or.inl ⟨by kernel_rfl, fun w' _ => by go_simp⟩) hS1 ?_
          refine wpAnyH_take (i := 8) (v := .bool false) rfl (by kernel_rfl) (by kernel_rfl) (by kernel_rfl) (fun _ _ _ h => h) (Or.inl ⟨by kernel_rfl, fun w' _ => by go_simp⟩) hS1 ?_
          refine wpAnyH_take (i := 9) (v := .bool false) rfl (by kernel_rfl) (by kernel_rfl) (by kernel_rfl) (fun _ _ _ h => h) (Or.inl ⟨by kernel_rfl, fun w' _ => by go_simp⟩) hS1 ?_
          refine wpAnyH_take (i := 10) (v := .pointer (some ⟨b, 0, none⟩)) rfl (by kernel_rfl) (by kernel_rfl) (by kernel_rfl) (fun _ _ _ h => h) (Or.inl ⟨by kernel_rfl, fun w' _ => by kernel_rfl⟩) hS1 ?_
          refine wpAnyH_take (i := 12) (v := .pointer (some ⟨x, 13, none⟩)) rfl (by kernel_rfl) (by kernel_rfl) (by kernel_rfl) (fun _ _ _ h => h) (Or.inl ⟨by kernel_rfl, fun w' _ => by kernel_rfl⟩) hS1 ?_
          refine wpAnyH_take (i := 13) (v := .bool r2.po) rfl (by kernel_rfl) (by kernel_rfl) (by kernel_rfl) (fun _ _ _ h => h) (Or.inl ⟨by kernel_rfl, fun w' hS' => by have q := q13 w' hS'; go_simp⟩) hS1 ?_
          refine wpAnyH_ready (rs := [11]) (by kernel_rfl) (by simp) ?_
          refine AllReadyH.cons rfl (fun K hK => ?_) AllReadyH.nil
          go_simp
          refine (HBO.out _ hS1).mono ?_
          rintro e _w ⟨rfl, rfl⟩
          refine hK.out _ _ hS1 fun hS2 => ?_
          clear hK
          refine wpAnyH_take (i := 14) (v := .bool false) rfl (by kernel_rfl) (by kernel_rfl) (by kernel_rfl) (fun _ _ _ h => h) (Or.inl ⟨by kernel_rfl, fun w' _ => by go_simp⟩) hS2 ?_
          refine wpAnyH_take (i := 15) (v := .bool false) rfl (by kernel_rfl) (by kernel_rfl) (by kernel_rfl) (fun _ _ _ h => h) (Or.inl ⟨by kernel_rfl, fun w' _ => by go_simp⟩) hS2 ?_
          refine wpAnyH_take (i := 16) (v := .bool false) rfl (by kernel_rfl) (by kernel_rfl) (by kernel_rfl) (fun _ _ _ h => h) (Or.inl ⟨by kernel_rfl, fun w' _ => by go_simp⟩) hS2 ?_
          refine wpAnyH_take (i := 17) (v := .pointer (some ⟨b, 0, none⟩)) rfl (by kernel_rfl) (by kernel_rfl) (by kernel_rfl) (fun _ _ _ h => h) (Or.inl ⟨by kernel_rfl, fun w' _ => by kernel_rfl⟩) hS2 ?_
          refine wpAnyH_take (i := 19) (v := .agg r2.cells) rfl (by kernel_rfl) (by kernel_rfl) (by kernel_rfl) (fun _ _ _ h => h) (Or.inl ⟨by kernel_rfl, fun w' hS' => yields_row 51 _ rfl x rfl ((HP.out.go hS').k) Tryd.underlying51 rfl rinfo⟩) hS2 ?_
          refine wpAnyH_take (i := 20) (v := .pointer (some ⟨x, 2, none⟩)) rfl (by kernel_rfl) (by kernel_rfl) (by kernel_rfl) (fun _ _ _ h => h) (Or.inl ⟨by kernel_rfl, fun w' _ => by kernel_rfl⟩) hS2 ?_
          refine wpAnyH_take (i := 21) (v := .int .i64 r2.H) rfl (by kernel_rfl) (by kernel_rfl) (by kernel_rfl) (fun _ _ _ h => h) (Or.inl ⟨by kernel_rfl, fun w' hS' => by have q := q2 w' hS'; go_simp⟩) hS2 ?_
          refine wpAnyH_take (i := 22) (v := .pointer (some ⟨x, 3, none⟩)) rfl (by kernel_rfl) (by kernel_rfl) (by kernel_rfl) (fun _ _ _ h => h) (Or.inl ⟨by kernel_rfl, fun w' _ => by kernel_rfl⟩) hS2 ?_
          refine wpAnyH_take (i := 23) (v := .int .i64 r2.T) rfl (by kernel_rfl) (by kernel_rfl) (by kernel_rfl) (fun _ _ _ h => h) (Or.inl ⟨by kernel_rfl, fun w' hS' => by have q := q3 w' hS'; go_simp⟩) hS2 ?_
          refine wpAnyH_ready (rs := [18]) (by kernel_rfl) (by simp) ?_
          refine AllReadyH.cons rfl (fun K hK => ?_) AllReadyH.nil
          go_simp
          refine (HCO.out _ hS2).mono ?_
          rintro e w3 ⟨rfl, hb3⟩
          refine hK.out _ _ (hS2.trans (hb3.mono hS2.size)) fun hS3 => ?_
          clear hK
          refine wpAnyH_ready (rs := [24]) (by kernel_rfl) (by simp) ?_
          refine AllReadyH.cons rfl (fun K hK => ?_) AllReadyH.nil
          go_simp
          refine (HHE.out _).mono ?_
          rintro e w4 ⟨rfl, hb4⟩
          refine hK.out _ _ (hS3.trans (hb4.mono hS3.size)) fun hS4 => ?_
          clear hK
          refine wpAnyH_take (i := 25) (v := .bool false) rfl (by kernel_rfl) (by kernel_rfl) (by kernel_rfl) (fun _ _ _ h => h) (Or.inl ⟨by kernel_rfl, fun w' _ => by go_simp⟩) hS4 ?_
          refine wpAnyH_take (i := 26) (v := .bool false) rfl (by kernel_rfl) (by kernel_rfl) (by kernel_rfl) (fun _ _ _ h => h) (Or.inl ⟨by kernel_rfl, fun w' _ => by go_simp⟩) hS4 ?_
          refine wpAnyH_take (i := 27) (v := .bool false) rfl (by kernel_rfl) (by kernel_rfl) (by kernel_rfl) (fun _ _ _ h => h) (Or.inl ⟨by kernel_rfl, fun w' _ => by go_simp⟩) hS4 ?_
          refine wpAnyH_take (i := 28) (v := .pointer (some ⟨b, 0, none⟩)) rfl (by kernel_rfl) (by kernel_rfl) (by kernel_rfl) (fun _ _ _ h => h) (Or.inl ⟨by kernel_rfl, fun w' _ => by kernel_rfl⟩) hS4 ?_
          refine wpAnyH_take (i := 30) (v := .agg r2.cells) rfl (by kernel_rfl) (by kernel_rfl) (by kernel_rfl) (fun _ _ _ h => h) (Or.inl ⟨by kernel_rfl, fun w' hS' => yields_row 51 _ rfl x rfl ((HP.out.go hS').k) Tryd.underlying51 rfl rinfo⟩) hS4 ?_
          refine wpAnyH_ready (rs := [29]) (by kernel_rfl) (by simp) ?_
          refine AllReadyH.cons rfl (fun K hK => ?_) AllReadyH.nil
          go_simp
          refine (ctx_cells (HP.out.go hS4).c).mono ?_
          rintro e w5' ⟨v1, rfl, hi1, hb5⟩
          refine hK.out _ _ (hS4.trans (hb5.mono hS4.size)) fun hS5 => ?_
          clear hK
          refine wpAnyH_ready (rs := [31]) (by kernel_rfl) (by simp) ?_
          refine AllReadyH.cons rfl (fun K hK => ?_) AllReadyH.nil
          go_simp
          refine (refcells_any (HP.out.go hS5).ri HP.out.c.ok).mono ?_
          rintro e w6 ⟨v2, rfl, hi2, hb6⟩
          refine hK.out _ _ (hS5.trans (hb6.mono hS5.size)) fun hS6 => ?_
          clear hK
          refine wpAnyH_ready (rs := [32]) (by kernel_rfl) (by simp) ?_
          refine AllReadyH.cons rfl (fun K hK => ?_) AllReadyH.nil
          go_simp
          refine (same_yes (hi1.below hb6) hi2 HML.out).mono ?_
          rintro e w7 ⟨rfl, nd, rfl⟩
          refine hK.out _ _ (hS6.trans (below_drewN' _ nd |>.mono hS6.size)) fun hS7 => ?_
          clear hK
          refine wpAnyH_take (i := 33) (v := .bool false) rfl (by kernel_rfl) (by kernel_rfl) (by kernel_rfl) (fun _ _ _ h => h) (Or.inl ⟨by kernel_rfl, fun w' _ => by go_simp⟩) hS7 ?_
          refine wpAnyH_take (i := 34) (v := .bool false) rfl (by kernel_rfl) (by kernel_rfl) (by kernel_rfl) (fun _ _ _ h => h) (Or.inl ⟨by kernel_rfl, fun w' _ => by go_simp⟩) hS7 ?_
          refine wpAnyH_done (by kernel_rfl) ?_ _
          go_simp
          go_wp2
          go_meet
          exact ⟨rfl, _, _, HP.out.go hS7⟩
        case rest =>
          obtain ⟨rfl, X3, Y3, hP3⟩ := hcut
          have HP3 := Lib.hid hP3
          clear hP3 HP
          go_wp2_with fail
          go_roundw
          case rel => exact ⟨k + 1, X3, Y3, r2, s2, by omega, by go_num, HP3.out, HS2.out⟩
          case measure => simp [intOf]; omega
    · obtain rfl : k = e1 := by omega
      have b1' : ¬ (k : Int) < (k : Int) := by omega
      have k_D : wr.cell? ⟨x, 0, none⟩ = some (.int .i64 (placesOf n0 : Int)) := (HP.out.k.cell 0).trans (by rw [← HS.out.1, ← HP.out.ri.D]; rfl)
      have k_W : wr.cell? ⟨x, 1, none⟩ = some (.int .i64 (wordsOf m0 : Int)) := (HP.out.k.cell 1).trans (by rw [← HS.out.2, ← HP.out.ri.W]; rfl)
      have HWQ := Lib.hid (show ∀ q, Calls Tryd.prog 11 #[.pointer (some ⟨b, 0, none⟩)] (wr.drewN q) fun e w' => e = .returned (.int .i64 (wordsOf m0 : Int)) ∧ w' = wr.drewN q from fun q => by
        have := ctx_words (HP.out.c.below (below_drewN' _ q))
        rw [HS.out.2] at this
        exact this.mono fun _ _ ⟨he, hw⟩ => ⟨he, hw.symm⟩)
      have HPQ := Lib.hid (show ∀ q, Calls Tryd.prog 12 #[.pointer (some ⟨b, 0, none⟩)] (wr.drewN q) fun e w' => e = .returned (.int .i64 (placesOf n0 : Int)) ∧ w' = wr.drewN q from fun q => by
        have := ctx_places (HP.out.c.below (below_drewN' _ q))
        rw [HS.out.1] at this
        exact this.mono fun _ _ ⟨he, hw⟩ => ⟨he, hw.symm⟩)
      have HB := Lib.hid HP.out.c.bel
      have t1 : ((wordsOf m0 : Int) == (wordsOf m0 : Int)) = true := by simp
      have t2 : ((placesOf n0 : Int) == (placesOf n0 : Int)) = true := by simp
      clear HP HS
      generalize (wordsOf m0 : Int) = Wn at *
      generalize (placesOf n0 : Int) = Pn at *
      go_wp2_with fail
      go_quiet (first | (go_at_call 11; exact Calls.quiet_of_same (HWQ.out _)) | (go_at_call 12; exact Calls.quiet_of_same (HPQ.out _)))
      go_wp2
      go_ret
      exact ⟨by simp, below_drewN HB.out nq⟩
end Go.Proofs.YtelfclcljdjohaaDoor
