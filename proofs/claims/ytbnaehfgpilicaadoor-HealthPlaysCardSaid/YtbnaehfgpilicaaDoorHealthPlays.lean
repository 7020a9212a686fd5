/- HealthPlays: what a log answers, and has, is what the reference says. -/
import Derived.Test.YtbnaehfgpilicaaDoorHealthRef
namespace Go.Proofs.YtbnaehfgpilicaaDoor
open Go.RowKit

attribute [local go_sem ↓] neqEv same_eta
theorem many_bd (n : Int) : 0 ≤ wrap64 ((IntKind.u64.wrap n).tmod 4) ∧ wrap64 ((IntKind.u64.wrap n).tmod 4) ≤ 3 := by
  rw [IntKind.wrap_u64, Int.tmod_eq_emod_of_nonneg (by omega)]
  unfold wrap64
  omega
set_option maxRecDepth 100000 in
set_option maxHeartbeats 6400000 in
theorem healthPlays_law (A : Option Addr) (len cap : Nat) (L0 : List Ev) (many : Int) (w : World) (hS : EvsIn w (.slice A len cap) L0) (hlc : len ≤ cap) (hcap : cap ≤ maxLen) :
    Calls Tryd.prog 7 #[.slice A len cap, .int .i64 many] w fun r w' => r = .returned (.bool true) ∧ Below w.heap.size w w' := by
  obtain ⟨m, hm⟩ : ∃ m, m = min len 150 := ⟨_, rfl⟩
  obtain ⟨hI, hIl⟩ := hS.take m (by omega)
  have hm150 : m ≤ 150 := by omega
  have hmc : m ≤ cap := by omega
  generalize L0.take m = L at *
  have HI := Lib.hid hI
  have HIL := Lib.hid hIl
  have HE := Lib.hid (fun W => early_any A len cap W hlc hcap)
  rw [← hm] at HE
  have HM := Lib.hid (many_bd many)
  clear hS hI hIl hm hlc hcap
  go_enter Tryd.func7, Tryd.ntmps7
  go_wp2_with fail
  refine (lives_any w).mono ?_
  rintro r w1 ⟨rfl, hB1⟩
  go_wp2_with fail
  refine (hctx_new hB1).mono ?_
  rintro r w2 ⟨rfl, hC⟩
  have HC := Lib.hid hC
  clear hB1 hC
  go_wp2_with fail
  refine (HE.out _).mono ?_
  rintro r w3 ⟨rfl, rfl⟩
  generalize w1.heap.size = b at *
  go_wp2_with fail
  go_loopw [6, 7] (fun v t wr => ∃ (c : Int) (l : List Ev), -1 ≤ c ∧ c ≤ 3 ∧ t = .int .i64 c ∧ (l.length : Int) ≤ (3 - c) * 150 ∧ HCtx w wr b l ∧ EvsOff wr b v l ∧ (∀ e ∈ l, okK e.k)) (fun _ t _ => (intOf t + 1).toNat)
  case atStart => exact ⟨_, [], by have := HM.out.1; omega, HM.out.2, rfl, by have := HM.out.2; simp; omega, HC.out, EvsOff.nil _ _, by simp⟩
  case round =>
    clear HC HM
    obtain ⟨c, l, hc0, hc1, rfl, hll, hC, hV, hok⟩ := hrel
    obtain ⟨Av, cv, rfl⟩ := hV.ins.form
    have HC := Lib.hid hC
    have HV := Lib.hid hV
    have HOK := Lib.hid hok
    clear hC hV hok
    by_cases hcp : 0 ≤ c
    · go_wp2_with fail
      go_loopw [6, 8] (fun v i wr => ∃ (k : Nat) (l : List Ev), k ≤ m ∧ i = .int .i64 k ∧ (l.length : Int) ≤ (3 - c) * 150 + k ∧ HCtx w wr b l ∧ EvsOff wr b v l ∧ (∀ e ∈ l, okK e.k)) (fun _ i _ => m - (intOf i).toNat)
      case atStart => exact ⟨0, l, Nat.zero_le _, rfl, by omega, HC.out, HV.out, HOK.out⟩
      case round =>
        clear HC HV HOK hll
        obtain ⟨k, l, hk, rfl, hll, hC, hV, hok⟩ := hrel
        obtain ⟨Av, cv, rfl⟩ := hV.ins.form
        by_cases hlt : k < m
        · have hkL : k < L.length := by rw [HIL.out]; exact hlt
          have b1 : (k : Int) < (m : Int) := by omega
          have b0 : (0 : Int) ≤ (k : Int) := by omega
          have hl9 : l.length ≤ 9999 := by omega
          obtain ⟨bs, off, rfl, -, -, hev⟩ := (HI.out.below hC.bel).one k hkL
          generalize L[k] = e at *
          have hHW := hC.at_.lt
          have hw1 := below_alloc (w := wr) (Nat.le_refl _) (.cells #[.int .i64 e.k, .int .i64 e.t, .int .i64 e.p, .int .i64 e.c, .int .i64 e.n] 23)
          have HC1 := Lib.hid (hC.below hw1)
          have hV1 := hV.below hw1
          have HX1 := Lib.hid (show EvAt (wr.alloc (.cells #[.int .i64 e.k, .int .i64 e.t, .int .i64 e.p, .int .i64 e.c, .int .i64 e.n] 23)) wr.heap.size 0 e from by
            refine ⟨?_, ?_, ?_, ?_, ?_⟩ <;> exact World.cell?_alloc_at _ _ _ _ rfl)
          have hxb : wr.heap.size ≠ b := by omega
          have HT := Lib.hid (rtell_any hV1 (by simp; omega) (by omega) e)
          have HLN := Lib.hid (tellL_len l e)
          have HOK2 := Lib.hid (tellL_ok hok e)
          obtain ⟨e0, e1, e2, e3, e4⟩ := hev
          clear hC hV hok hw1 hV1 hHW
          unfold Ev.cells at HT
          go_wp2_with fail
          refine HT.out.mono ?_
          rintro r w4 ⟨v', rfl, hV4, hb4⟩
          obtain ⟨A', c', rfl⟩ := hV4.ins.form
          have HC4 := Lib.hid (HC1.out.below hb4)
          have HV4 := Lib.hid hV4
          have hX4 : EvAt w4 wr.heap.size 0 e := HX1.out.below hb4 HX1.out.lt
          have HTT := Lib.hid (fun (w' : World) (h : HCtx w w' b l) => hctx_tell h e (by omega))
          have hl' : (tellL l e).length ≤ 10000 := by have := HLN.out; omega
          have hlk : ((tellL l e).length : Int) ≤ (3 - c) * 150 + ((k + 1 : Nat) : Int) := by have := HLN.out; omega
          have hce := countL_eq HOK2.out e.k
          clear hV4 hb4 HC1 HX1 HT e0 e1 e2 e3 e4
          unfold Ev.cells at HTT
          generalize tellL l e = l' at *
          generalize wr.heap.size = x at *
          have HCE := Lib.hid hce
          clear hce
          go_wp2_with fail
          refine wp_region_held_drew (S := fun w' => EvAt w' x 0 e) rfl (hX4.keep rfl) fun hS => ?_
          refine wpAnyH_take (i := 0) (v := .pointer (some ⟨b, 0, none⟩)) rfl (by kernel_rfl) (by kernel_rfl) (by kernel_rfl) (fun _ _ _ h => h) (Or.inl ⟨by kernel_rfl, fun w' _ => by kernel_rfl⟩) hS ?_
          refine wpAnyH_take (i := 1) (v := .agg e.cells) rfl (by kernel_rfl) (by kernel_rfl) (by kernel_rfl) (fun _ _ _ h => h) (Or.inl ⟨by kernel_rfl, fun w' hS' => by obtain ⟨q0, q1, q2, q3, q4⟩ := hS'; unfold Ev.cells; go_simp⟩) hS ?_
          refine wpAnyH_take (i := 3) (v := .int .i64 (tellE e)) rfl (by kernel_rfl) (by kernel_rfl) (by kernel_rfl) (fun _ _ _ h => h) (Or.inl ⟨by kernel_rfl, fun w' _ => by kernel_rfl⟩) hS ?_
          refine wpAnyH_ready (rs := [2]) (by kernel_rfl) (by simp) ?_
          refine AllReadyH.cons rfl (fun K hK => ?_) AllReadyH.nil
          unfold Ev.cells
          go_simp
          refine (HTT.out _ (HC4.out.below (Below.refl _ _).drew)).mono ?_
          rintro r w5 ⟨rfl, hC5, hO5⟩
          have hX5 : EvAt w5 x 0 e := (hX4.keep (w' := w4.drew) rfl).keep (hO5.block _ hX4.lt hxb)
          have HV5 := Lib.hid ((HV4.out.below (Below.refl _ _).drew).only hO5)
          have HC5 := Lib.hid hC5
          refine hK.out _ _ hX5 fun hS5 => ?_
          clear hK hC5 hO5
          refine wpAnyH_take (i := 4) (v := .bool false) rfl (by kernel_rfl) (by kernel_rfl) (by kernel_rfl) (fun _ _ _ h => h) (Or.inl ⟨by kernel_rfl, fun w' _ => by first | (go_simp; done) | kernel_rfl⟩) hS5 ?_
          refine wpAnyH_take (i := 5) (v := .bool false) rfl (by kernel_rfl) (by kernel_rfl) (by kernel_rfl) (fun _ _ _ h => h) (Or.inl ⟨by kernel_rfl, fun w' _ => by kernel_rfl⟩) hS5 ?_
          refine wpAnyH_take (i := 6) (v := .pointer (some ⟨b, 0, none⟩)) rfl (by kernel_rfl) (by kernel_rfl) (by kernel_rfl) (fun _ _ _ h => h) (Or.inl ⟨by kernel_rfl, fun w' _ => by kernel_rfl⟩) hS5 ?_
          refine wpAnyH_take (i := 8) (v := .slice A' l'.length c') rfl (by kernel_rfl) (by kernel_rfl) (by kernel_rfl) (fun _ _ _ h => h) (Or.inl ⟨by kernel_rfl, fun w' _ => by kernel_rfl⟩) hS5 ?_
          refine wpAnyH_take (i := 9) (v := .int .i64 l'.length) rfl (by kernel_rfl) (by kernel_rfl) (by kernel_rfl) (fun _ _ _ h => h) (Or.inl ⟨by kernel_rfl, fun w' _ => by first | (go_simp; done) | kernel_rfl⟩) hS5 ?_
          refine wpAnyH_ready (rs := [7]) (by kernel_rfl) (by simp) ?_
          refine AllReadyH.cons rfl (fun K hK => ?_) AllReadyH.nil
          go_simp
          refine (told_any HC5.out.at_).mono ?_
          rintro r w6 ⟨rfl, rfl⟩
          refine hK.out _ _ hX5 fun hS5 => ?_
          clear hK
          refine wpAnyH_take (i := 10) (v := .bool false) rfl (by kernel_rfl) (by kernel_rfl) (by kernel_rfl) (fun _ _ _ h => h) (Or.inl ⟨by kernel_rfl, fun w' _ => by first | (go_simp; done) | kernel_rfl⟩) hS5 ?_
          refine wpAnyH_take (i := 11) (v := .bool false) rfl (by kernel_rfl) (by kernel_rfl) (by kernel_rfl) (fun _ _ _ h => h) (Or.inl ⟨by kernel_rfl, fun w' _ => by first | (go_simp; done) | kernel_rfl⟩) hS5 ?_
          refine wpAnyH_take (i := 12) (v := .bool false) rfl (by kernel_rfl) (by kernel_rfl) (by kernel_rfl) (fun _ _ _ h => h) (Or.inl ⟨by kernel_rfl, fun w' _ => by kernel_rfl⟩) hS5 ?_
          refine wpAnyH_take (i := 13) (v := .pointer (some ⟨b, 0, none⟩)) rfl (by kernel_rfl) (by kernel_rfl) (by kernel_rfl) (fun _ _ _ h => h) (Or.inl ⟨by kernel_rfl, fun w' _ => by kernel_rfl⟩) hS5 ?_
          refine wpAnyH_take (i := 14) (v := .pointer (some ⟨x, 0, none⟩)) rfl (by kernel_rfl) (by kernel_rfl) (by kernel_rfl) (fun _ _ _ h => h) (Or.inl ⟨by kernel_rfl, fun w' _ => by first | (go_simp; done) | kernel_rfl⟩) hS5 ?_
          refine wpAnyH_take (i := 15) (v := .int .i64 e.k) rfl (by kernel_rfl) (by kernel_rfl) (by kernel_rfl) (fun _ _ _ h => h) (Or.inl ⟨by kernel_rfl, fun w' hS' => by have q := hS'.k; go_simp⟩) hS5 ?_
          refine wpAnyH_take (i := 17) (v := .slice A' l'.length c') rfl (by kernel_rfl) (by kernel_rfl) (by kernel_rfl) (fun _ _ _ h => h) (Or.inl ⟨by kernel_rfl, fun w' _ => by kernel_rfl⟩) hS5 ?_
          refine wpAnyH_take (i := 18) (v := .pointer (some ⟨x, 0, none⟩)) rfl (by kernel_rfl) (by kernel_rfl) (by kernel_rfl) (fun _ _ _ h => h) (Or.inl ⟨by kernel_rfl, fun w' _ => by first | (go_simp; done) | kernel_rfl⟩) hS5 ?_
          refine wpAnyH_take (i := 19) (v := .int .i64 e.k) rfl (by kernel_rfl) (by kernel_rfl) (by kernel_rfl) (fun _ _ _ h => h) (Or.inl ⟨by kernel_rfl, fun w' hS' => by have q := hS'.k; go_simp⟩) hS5 ?_
          refine wpAnyH_ready (rs := [16]) (by kernel_rfl) (by simp) ?_
          refine AllReadyH.cons rfl (fun K hK => ?_) AllReadyH.nil
          go_simp
          refine (hctx_count HC5.out e.k).mono ?_
          rintro r w6 ⟨rfl, rfl⟩
          rw [HCE.out]
          refine hK.out _ _ hX5 fun hS5 => ?_
          clear hK
          refine wpAnyH_ready (rs := [20]) (by kernel_rfl) (by simp) ?_
          refine AllReadyH.cons rfl (fun K hK => ?_) AllReadyH.nil
          go_simp
          refine (rcount_any HV5.out hl' e.k).mono ?_
          rintro r w6 ⟨rfl, rfl⟩
          refine hK.out _ _ hX5 fun hS5 => ?_
          clear hK
          refine wpAnyH_take (i := 21) (v := .bool false) rfl (by kernel_rfl) (by kernel_rfl) (by kernel_rfl) (fun _ _ _ h => h) (Or.inl ⟨by kernel_rfl, fun w' _ => by first | (go_simp; done) | kernel_rfl⟩) hS5 ?_
          refine wpAnyH_take (i := 22) (v := .bool false) rfl (by kernel_rfl) (by kernel_rfl) (by kernel_rfl) (fun _ _ _ h => h) (Or.inl ⟨by kernel_rfl, fun w' _ => by first | (go_simp; done) | kernel_rfl⟩) hS5 ?_
          refine wpAnyH_take (i := 23) (v := .bool false) rfl (by kernel_rfl) (by kernel_rfl) (by kernel_rfl) (fun _ _ _ h => h) (Or.inl ⟨by kernel_rfl, fun w' _ => by kernel_rfl⟩) hS5 ?_
          refine wpAnyH_take (i := 24) (v := .pointer (some ⟨b, 0, none⟩)) rfl (by kernel_rfl) (by kernel_rfl) (by kernel_rfl) (fun _ _ _ h => h) (Or.inl ⟨by kernel_rfl, fun w' _ => by kernel_rfl⟩) hS5 ?_
          refine wpAnyH_take (i := 25) (v := .pointer (some ⟨x, 2, none⟩)) rfl (by kernel_rfl) (by kernel_rfl) (by kernel_rfl) (fun _ _ _ h => h) (Or.inl ⟨by kernel_rfl, fun w' _ => by first | (go_simp; done) | kernel_rfl⟩) hS5 ?_
          refine wpAnyH_take (i := 26) (v := .int .i64 e.p) rfl (by kernel_rfl) (by kernel_rfl) (by kernel_rfl) (fun _ _ _ h => h) (Or.inl ⟨by kernel_rfl, fun w' hS' => by have q := hS'.p; go_simp⟩) hS5 ?_
          refine wpAnyH_take (i := 28) (v := .slice A' l'.length c') rfl (by kernel_rfl) (by kernel_rfl) (by kernel_rfl) (fun _ _ _ h => h) (Or.inl ⟨by kernel_rfl, fun w' _ => by kernel_rfl⟩) hS5 ?_
          refine wpAnyH_take (i := 29) (v := .pointer (some ⟨x, 2, none⟩)) rfl (by kernel_rfl) (by kernel_rfl) (by kernel_rfl) (fun _ _ _ h => h) (Or.inl ⟨by kernel_rfl, fun w' _ => by first | (go_simp; done) | kernel_rfl⟩) hS5 ?_
          refine wpAnyH_take (i := 30) (v := .int .i64 e.p) rfl (by kernel_rfl) (by kernel_rfl) (by kernel_rfl) (fun _ _ _ h => h) (Or.inl ⟨by kernel_rfl, fun w' hS' => by have q := hS'.p; go_simp⟩) hS5 ?_
          refine wpAnyH_ready (rs := [27]) (by kernel_rfl) (by simp) ?_
          refine AllReadyH.cons rfl (fun K hK => ?_) AllReadyH.nil
          go_simp
          refine (hctx_of HC5.out (by omega) e.p).mono ?_
          rintro r w7 ⟨v7, rfl, hE7, hC7, hb7⟩
          have hX7 : EvAt w7 x 0 e := hX5.below hb7 hX5.lt
          have HV7 := Lib.hid (HV5.out.below hb7)
          have HC7 := Lib.hid hC7
          have HE7 := Lib.hid hE7
          refine hK.out _ _ hX7 fun hS7 => ?_
          clear hK hC7 hb7 hE7
          refine wpAnyH_ready (rs := [31]) (by kernel_rfl) (by simp) ?_
          refine AllReadyH.cons rfl (fun K hK => ?_) AllReadyH.nil
          go_simp
          refine (rof_any HV7.out hl' e.p).mono ?_
          rintro r w8 ⟨v8, rfl, hE8, hb8⟩
          have hX8 : EvAt w8 x 0 e := hX7.below hb8 hX7.lt
          have HV8 := Lib.hid (HV7.out.below hb8)
          have HC8 := Lib.hid (HC7.out.below hb8)
          have HE8 := Lib.hid (HE7.out.below hb8)
          have HF8 := Lib.hid hE8
          have hofl : (ofP l' e.p).length ≤ 64 := Nat.le_trans (List.length_filter_le _ _) (by rw [lastOf_len']; omega)
          refine hK.out _ _ hX8 fun hS8 => ?_
          clear hK hb8 hE8
          refine wpAnyH_ready (rs := [32]) (by kernel_rfl) (by simp) ?_
          refine AllReadyH.cons rfl (fun K hK => ?_) AllReadyH.nil
          go_simp
          refine (sameEv_yes HE8.out HF8.out (by omega)).mono ?_
          rintro r w9 ⟨rfl, n, rfl⟩
          have hX9 : EvAt (w8.drewN n) x 0 e := hX8.keep rfl
          refine hK.out _ _ hX9 fun hS9 => ?_
          clear hK
          refine wpAnyH_take (i := 33) (v := .bool false) rfl (by kernel_rfl) (by kernel_rfl) (by kernel_rfl) (fun _ _ _ h => h) (Or.inl ⟨by kernel_rfl, fun w' _ => by first | (go_simp; done) | kernel_rfl⟩) hS9 ?_
          refine wpAnyH_take (i := 34) (v := .bool false) rfl (by kernel_rfl) (by kernel_rfl) (by kernel_rfl) (fun _ _ _ h => h) (Or.inl ⟨by kernel_rfl, fun w' _ => by first | (go_simp; done) | kernel_rfl⟩) hS9 ?_
          refine wpAnyH_done (by kernel_rfl) ?_ _
          go_simp
          have HC9 := Lib.hid (HC8.out.drewN n)
          have HV9 := Lib.hid (HV8.out.below (below_drewN' w8 n))
          clear hX4 hX5 hX7 hX8 hX9 hS hS5 hS7 hS8 hS9 HC4 HV4 HC5 HV5 HC7 HV7 HE7 HC8 HV8 HE8 HF8 HTT
          go_wp2_with fail
          go_roundw
          case rel => exact ⟨k + 1, l', by omega, by go_num, hlk, HC9.out, HV9.out, HOK2.out⟩
          case measure => simp [intOf]; omega
        · obtain rfl : k = m := by omega
          have b1 : ¬ (k : Int) < (k : Int) := by omega
          have hl9 : l.length ≤ 9999 := by omega
          have HV := Lib.hid hV
          have HOK := Lib.hid hok
          have HLA := Lib.hid (hctx_last hC (by omega))
          clear hC hV hok HI HE
          go_wp2_with fail
          refine HLA.out.mono ?_
          rintro r w5 ⟨rfl, hC5, hb5⟩
          have hw6 := below_alloc (w := w5) (Nat.le_refl _) (.cells (lastE l).cells 23)
          have HC6 := Lib.hid (hC5.below hw6)
          have HV6 := Lib.hid ((HV.out.below hb5).below hw6)
          have HY6 := Lib.hid (Blk.new w5 23 (lastE l).cells)
          have HA6 := Lib.hid (hctx_all (hC5.below hw6) (by omega))
          unfold Ev.cells at HA6 ⊢
          clear hC5 hb5 hw6 HV HLA
          go_wp2_with fail
          refine HA6.out.mono ?_
          rintro r w7 ⟨v7, rfl, hE7, hC7, hb7⟩
          obtain ⟨A7, c7, rfl⟩ := hE7.form
          have HC7 := Lib.hid hC7
          have HV7 := Lib.hid (HV6.out.below hb7)
          have HY7 := Lib.hid (HY6.out.below hb7 HY6.out.lt)
          have HE7 := Lib.hid hE7
          clear hC7 hb7 hE7 HC6 HV6 HY6 HA6
          go_wp2_with fail
          refine (rlast_any HV7.out (by omega)).mono ?_
          rintro r w8 ⟨v8, rfl, hE8, rfl⟩
          obtain ⟨A8, c8, rfl⟩ := hE8.form
          have HS8 := Lib.hid (sameEv_yes HE7.out hE8 (by rw [lastOf_len']; omega))
          have hq64 : (lastOf l).length ≤ 64 := by rw [lastOf_len']; omega
          clear hE8
          go_wp2_with fail
          refine HS8.out.mono ?_
          rintro r w9 ⟨rfl, n, rfl⟩
          have HC9 := Lib.hid (HC7.out.drewN n)
          have HV9 := Lib.hid (HV7.out.below (below_drewN' w7 n))
          have HY9 := Lib.hid (show Blk (w7.drewN n) w5.heap.size 23 (lastE l).cells from HY7.out)
          have HGO := Lib.hid (gone_any HC9.out.at_ (by omega))
          obtain ⟨g, hg⟩ : ∃ g, g = goneOf l := ⟨_, rfl⟩
          have hgm : max ((l.length : Int) - 64) 0 = (g : Int) := by rw [hg]; unfold goneOf; omega
          rw [← hg] at HGO
          clear hg HC7 HV7 HY7 HE7 HS8
          go_wp2_with fail
          refine HGO.out.mono ?_
          rintro r w9 ⟨rfl, rfl⟩
          by_cases h0 : 0 < l.length
          · have hd : decide (0 < l.length) = true := decide_eq_true h0
            obtain ⟨q, hq⟩ := Nat.exists_eq_add_one_of_ne_zero (show l.length ≠ 0 by omega)
            obtain ⟨A', c', e1, hcl, _, hk'⟩ := HV9.out
            injection e1 with e1 _ e3
            subst e1 e3
            obtain ⟨g', o', rfl, -, -, hcell⟩ := hk' h0
            have hz : EvAt (w7.drewN n) g' (o' + q * 5) (lastE l) := by
              have h1 := hcell q (by omega)
              have e2 : lastE l = l[q] := by unfold lastE; rw [List.getLast?_eq_getElem?, List.getElem?_eq_getElem (by omega)]; simp only [Option.getD_some]; congr 1; omega
              rw [e2]; exact h1
            have hlq : (l.length : Int) ≤ (3 - c) * 150 + k := hll
            rw [hd]
            have HD := Lib.hid hd
            have HQ := Lib.hid hq
            have s1 : (0 : Int) < (l.length : Int) := by omega
            have s6 : (0 : Int) ≤ (q : Int) := by omega
            have s7 : (q : Int) < (l.length : Int) := by omega
            have s8 : IntKind.i64.wrap (q : Int) = (q : Int) := by rw [IntKind.wrap_i64]; omega
            have s9 : (l.length : Int) - 1 = (q : Int) := by omega
            obtain ⟨z0, z1, z2, z3, z4⟩ := hz
            have y0 : (w7.drewN n).cell? ⟨w5.heap.size, 0, none⟩ = some (.int .i64 (lastE l).k) := (HY9.out.cell 0).trans rfl
            have y1 : (w7.drewN n).cell? ⟨w5.heap.size, 1, none⟩ = some (.int .i64 (lastE l).t) := (HY9.out.cell 1).trans rfl
            have y2 : (w7.drewN n).cell? ⟨w5.heap.size, 2, none⟩ = some (.int .i64 (lastE l).p) := (HY9.out.cell 2).trans rfl
            have y3 : (w7.drewN n).cell? ⟨w5.heap.size, 3, none⟩ = some (.int .i64 (lastE l).c) := (HY9.out.cell 3).trans rfl
            have y4 : (w7.drewN n).cell? ⟨w5.heap.size, 4, none⟩ = some (.int .i64 (lastE l).n) := (HY9.out.cell 4).trans rfl
            clear hd hq hcell hk' hcl
            generalize w7.drewN n = w9 at *
            go_wp2_with fail
            go_quiet (fail)
            go_wp2_with fail
            go_roundw
            case rel => exact ⟨c - 1, l, by omega, by omega, rfl, by omega, HC9.out.drewN _, HV9.out.below (below_drewN' _ _), HOK.out⟩
            case measure => simp [intOf]; omega
          · have hd : decide (0 < l.length) = false := decide_eq_false h0
            obtain rfl : l = [] := List.eq_nil_of_length_eq_zero (by omega)
            have HD := Lib.hid hd
            have hgz : g = 0 := by simp at hgm; omega
            subst hgz
            have hm0 : max (-64 : Int) 0 = 0 := by decide
            clear hgm
            have e0 := HV9.out.empty
            injection e0 with e1 e2 e3
            subst e1 e3
            clear hd h0 e2
            generalize w7.drewN n = w9 at *
            go_wp2_with fail
            go_quiet (fail)
            go_wp2_with fail
            go_roundw
            case rel => exact ⟨c - 1, [], by omega, by omega, rfl, by simp; omega, HC9.out.drewN _, HV9.out.below (below_drewN' _ _), by simp⟩
            case measure => simp [intOf]; omega
    · go_wp2_with fail
      go_ret
      exact ⟨rfl, HC.out.bel⟩
end Go.Proofs.YtbnaehfgpilicaaDoor
