/- RingFills: as many are pushed as there are places, and all are popped in their row: the walk. -/
import Derived.Test.YtelfclcljdjohaaDoorRingW
namespace Go.Proofs.YtelfclcljdjohaaDoor
open Go.RowKit

theorem busy_q {W w : World} {b mb lb : Nat} {X : Nat → Prop} {s : RS} (h : Ctx W w b mb lb X s) (x : Bool) :
    Calls Tryd.prog 15 #[.pointer (some ⟨b, 0, none⟩), .bool x] w fun e w' => e = .returned (.bool (!decide ((if x then s.ia else s.oa) = 0))) ∧ w' = w :=
  (ctx_busy h x).mono fun _ _ ⟨he, hw⟩ => ⟨he, hw.symm⟩
/-- Between the rounds: as many went out as in. -/
structure Even (f : FS) (P W q : Nat) : Prop where
  i : FInv f
  e : f.fin = f.out
  ia : f.s.ia = 0
  oa : f.s.oa = 0
  p : f.s.P = P
  w : f.s.W = W
  b : f.fin + 8 * q ≤ 64
set_option maxRecDepth 100000 in
set_option maxHeartbeats 6400000 in
theorem ringFills_law (n0 m0 r0 : Int) (w : World) :
    Calls Tryd.prog 3 #[.int .i64 n0, .int .i64 m0, .int .i64 r0] w fun e w' => e = .returned (.bool true) ∧ Below w.heap.size w w' := by
  go_enter Tryd.func3, Tryd.ntmps3
  go_wp2_with fail
  refine (lives_any w).mono ?_
  rintro e w1 ⟨rfl, hB1⟩
  go_wp2_with fail
  refine (ctx_new n0 m0 hB1).mono ?_
  rintro e w2 ⟨b, mb, lb, rfl, hB2, hC⟩
  have hs1 := hB1.size
  have hs2 := hB2.size
  have hP := placesOf_bd n0
  have hW := wordsOf_bd m0
  have HA := Lib.hid (show FAt w (w2.alloc (.cells (fCells b (fs0 (placesOf n0) (wordsOf m0))) 27)) b mb lb w2.heap.size (fs0 (placesOf n0) (wordsOf m0)) from
    ⟨(hC.more w2.heap.size _ (below_alloc (Nat.le_refl _) _) (Nat.le_refl _) (by simp)).less (fun k e => .inr e), Blk.new w2 27 _, by omega⟩)
  have HI := Lib.hid (show ∀ q, q ≤ 8 → Even (fs0 (placesOf n0) (wordsOf m0)) (placesOf n0) (wordsOf m0) q from fun q hq => ⟨finv_new _ _ hP.1 hP.2 hW.1 hW.2, rfl, rfl, rfl, rfl, rfl, by show 0 + 8 * q ≤ 64; omega⟩)
  have k0 := HA.out.k0
  have HCW := Lib.hid (ctx_words HA.out.c)
  rw [show (fs0 (placesOf n0) (wordsOf m0)).s.W = wordsOf m0 from rfl] at HCW
  clear hB1 hB2 hC hs1 hs2
  go_wp2_with fail
  change Calls _ _ _ (w2.alloc (.cells (fCells b (fs0 (placesOf n0) (wordsOf m0))) 27)) _
  generalize w2.alloc (.cells (fCells b (fs0 (placesOf n0) (wordsOf m0))) 27) = wL at *
  generalize fs0 (placesOf n0) (wordsOf m0) = f0 at *
  generalize placesOf n0 = P at *
  generalize wordsOf m0 = N at *
  generalize w2.heap.size = x at *
  refine HCW.out.mono ?_
  rintro e w3 ⟨rfl, rfl⟩
  obtain ⟨hP1, hP8⟩ := hP
  obtain ⟨hN1, hN6⟩ := hW
  clear HCW
  obtain ⟨q0, hq0, hqe⟩ : ∃ q : Nat, q ≤ 8 ∧ wrap64 ((IntKind.u64.wrap r0).tmod 8) = (q : Int) - 1 := by
    refine ⟨(wrap64 ((IntKind.u64.wrap r0).tmod 8) + 1).toNat, ?_, ?_⟩ <;> (rw [IntKind.wrap_u64, Int.tmod_eq_emod_of_nonneg (by omega)]; unfold wrap64; omega)
  go_wp2
  obtain ⟨n, hn⟩ : ∃ n, n = N + 3 := ⟨_, rfl⟩
  have hne : (N : Int) + 3 = (n : Int) := by omega
  have hm : IntKind.i64.wrap ((P : Int) * (n : Int)) = ((P * n : Nat) : Int) := by
    have : P * n ≤ 8 * 9 := Nat.mul_le_mul hP8 (by omega)
    rw [← Int.natCast_mul, IntKind.wrap_i64]
    omega
  rw [hqe, hne]
  have HNN := Lib.hid hn
  have hn9 : n ≤ 9 := by omega
  clear hn
  go_loopw [9, 10, 11, 12] (fun rv _ _ _ wr => ∃ (q : Nat) (f : FS), q ≤ 8 ∧ rv = .int .i64 ((q : Int) - 1) ∧ FAt w wr b mb lb x f ∧ Even f P N q) (fun rv _ _ _ _ => (intOf rv + 1).toNat)
  case atStart => exact ⟨q0, f0, hq0, rfl, HA.out, HI.out q0 hq0⟩
  case round =>
    clear HA HI k0 hqe hq0 hne
    obtain ⟨q, f, hq, rfl, hA, hE⟩ := hrel
    have HA := Lib.hid hA
    have HE := Lib.hid hE
    clear hA hE
    by_cases hq0 : q = 0
    · subst hq0
      have k0 := HA.out.k0
      have HPL := Lib.hid (ctx_places HA.out.c)
      rw [HE.out.p] at HPL
      have hB := Lib.hid HA.out.c.bel
      have hP0 : (1 : Int) ≤ (P : Int) := by omega
      clear HA HE hm
      go_wp2_with fail
      refine HPL.out.mono ?_
      rintro e w4 ⟨rfl, rfl⟩
      go_wp2
      go_ret
      exact ⟨rfl, hB.out⟩
    · obtain ⟨r, rfl⟩ : ∃ r, q = r + 1 := ⟨q - 1, by omega⟩
      rw [show ((r + 1 : Nat) : Int) - 1 = (r : Int) by omega]
      have hr0 : (0 : Int) ≤ (r : Int) := by omega
      have ht : (r : Int).tmod 2 = ((r % 2 : Nat) : Int) := by rw [Int.tmod_eq_emod_of_nonneg hr0]; omega
      have ht1 : r % 2 ≤ 1 := by omega
      have HS1 := Lib.hid (pushAt_start HE.out.i HE.out.ia HE.out.oa)
      have HM0 : 0 ≤ P * n := Nat.zero_le _
      have hPn : P * n ≤ 8 * 9 := Nat.mul_le_mul hP8 hn9
      go_wp2_with fail
      go_loopw [10] (fun i wx => ∃ (k : Nat) (f1 : FS), k ≤ P * n ∧ i = .int .i64 k ∧ FAt w wx b mb lb x f1 ∧ PushAt f f1 k) (fun i _ => P * n - (intOf i).toNat)
      case atStart => exact ⟨0, f, HM0, rfl, HA.out, HS1.out⟩
      case round =>
        clear HA HS1
        obtain ⟨k, f1, hk, rfl, hA, hPU⟩ := hrel
        have k0 := hA.k0
        have HPL := Lib.hid (ctx_places hA.c)
        rw [hPU.p, HE.out.p] at HPL
        have HA := Lib.hid hA
        have HPU := Lib.hid hPU
        clear hA hPU
        by_cases hlt : k < P * n
        · have b1 : (k : Int) < ((P * n : Nat) : Int) := by omega
          have hnx := pushAt_next HPU.out (by have := HE.out.b; omega) HE.out.e (by rw [HE.out.p, HE.out.w, ← HNN.out]; exact hlt)
          have HO := Lib.hid (fpush_any HA.out HPU.out.i hnx.1)
          have HN := Lib.hid hnx.2
          clear hnx HA HPU
          go_wp2_with fail
          refine HPL.out.mono ?_
          rintro e w4 ⟨rfl, rfl⟩
          generalize hPe : P * n = Pn at *
          have HPE := Lib.hid hPe
          clear hPe
          go_wp2_with fail
          refine HO.out.mono ?_
          rintro e w4 ⟨rfl, hA4⟩
          have HA4 := Lib.hid hA4
          clear hA4 HO HPL
          go_wp2
          go_roundw
          case rel => exact ⟨k + 1, f1.push, by have := HPE.out; omega, by go_num, HA4.out, HN.out⟩
          case measure => simp [intOf]; have := HPE.out; omega
        · obtain rfl : k = P * n := by omega
          have b1 : ¬ ((P * n : Nat) : Int) < ((P * n : Nat) : Int) := by omega
          obtain ⟨he1, he2, he3⟩ := pushAt_end HPU.out (by rw [HE.out.p, HE.out.w, ← HNN.out])
          rw [HE.out.p] at he1
          have hee := HE.out.e
          have hia1 := he3
          have hoa1 := HPU.out.oa
          have hI1 := HPU.out.i
          have hp1 := HPU.out.p.trans HE.out.p
          have hw1 := HPU.out.w.trans HE.out.w
          have hf1 : f1.fin = f1.out + P := by omega
          have hb1 : f1.fin + 8 * r ≤ 64 := by have := HE.out.b; omega
          have HF1 := Lib.hid (show f1.s.ia = 0 ∧ f1.s.oa = 0 ∧ FInv f1 ∧ f1.s.P = P ∧ f1.s.W = N ∧ f1.fin = f1.out + P ∧ f1.fin + 8 * r ≤ 64 from ⟨hia1, hoa1, hI1, hp1, hw1, hf1, hb1⟩)
          have HCO := Lib.hid (show ∀ W', Below wr.heap.size wr W' → Calls Tryd.prog 14 #[.pointer (some ⟨b, 0, none⟩)] W' fun e w' => e = .returned (.int .i64 (P : Int)) ∧ Below wr.heap.size wr w' ∧ w'.cell? ⟨x, 0, none⟩ = some (.pointer (some ⟨b, 0, none⟩)) ∧ w'.cell? ⟨x, 1, none⟩ = some (.int .i64 f1.fin) ∧ w'.cell? ⟨x, 2, none⟩ = some (.int .i64 f1.out) from fun W' hb => by
            have h' := HA.out.below hb
            have := ctx_count h'.c
            rw [finv_count hI1, show f1.fin - f1.out = P by omega] at this
            exact this.mono fun e w' ⟨he, hb'⟩ => ⟨he, hb.trans (hb'.mono hb.size), (h'.below hb').k0, (h'.below hb').k1, (h'.below hb').k2⟩)
          have HPS := Lib.hid (show ∀ W', Below wr.heap.size wr W' → Calls Tryd.prog 12 #[.pointer (some ⟨b, 0, none⟩)] W' fun e w' => e = .returned (.int .i64 P) ∧ W' = w' from fun W' hb => by
            have := ctx_places (HA.out.below hb).c
            rw [hp1] at this
            exact this)
          have HBU := Lib.hid (show ∀ W', Below wr.heap.size wr W' → Calls Tryd.prog 15 #[.pointer (some ⟨b, 0, none⟩), .bool true] W' fun e w' => e = .returned (.bool false) ∧ W' = w' from fun W' hb => by
            have := ctx_busy (HA.out.below hb).c true
            simpa [hia1] using this)
          have k1 := HA.out.k1
          have k2 := HA.out.k2
          have hbw : Below wr.heap.size wr wr := Below.refl _ _
          have eq1 : IntKind.i64.wrap ((f1.fin : Int) - (f1.out : Int)) = (P : Int) := by rw [IntKind.wrap_i64]; omega
          clear HE HPU he1 he2 he3 hee hia1 hoa1 hI1 hp1 hw1 hf1 hb1
          generalize P * n = Pn at *
          go_wp2_with fail
          refine HPL.out.mono ?_
          rintro e w4 ⟨rfl, rfl⟩
          go_wp2_with fail
          go_region_held3 (fun w' => Below wr.heap.size wr w' ∧ w'.cell? ⟨x, 0, none⟩ = some (.pointer (some ⟨b, 0, none⟩)) ∧ w'.cell? ⟨x, 1, none⟩ = some (.int .i64 f1.fin) ∧ w'.cell? ⟨x, 2, none⟩ = some (.int .i64 f1.out))
            (first | exact ⟨hbw, k0, k1, k2⟩ | exact ⟨hbw.drew, k0, k1, k2⟩)
            (first
              | (go_at_call 14; refine (HCO.out _ (by first | exact hbw | exact hbw.drew)).mono ?_; rintro e w' ⟨rfl, hbw, k0, k1, k2⟩)
              | (go_at_call 12; refine (HPS.out _ (by first | exact hbw | exact hbw.drew)).mono ?_; rintro e w' ⟨rfl, rfl⟩)
              | (go_at_call 15; refine (HBU.out _ (by first | exact hbw | exact hbw.drew)).mono ?_; rintro e w' ⟨rfl, rfl⟩))
          have HA2 := Lib.hid (HA.out.below hbw)
          clear HA HCO HPS HBU eq1 k1 k2 hbw HPL
          have HO := Lib.hid (fpush_any HA2.out HF1.out.2.2.1 (by have := HF1.out.2.2.2.2.2.2; omega))
          go_wp2_with fail
          refine HO.out.mono ?_
          rintro e w5 ⟨rfl, hA5⟩
          have HA5 := Lib.hid hA5
          have hu1 := push_full0 HF1.out.1
          have hu2 := push_keeps f1
          have hI5 := finv_push HF1.out.2.2.1 (by have := HF1.out.2.2.2.2.2.2; omega)
          have HF5 := Lib.hid (show WP f1.push 1 ∧ f1.push.s.oa = 0 ∧ FInv f1.push ∧ f1.push.s.P = P ∧ f1.push.s.W = N ∧ f1.push.fin = f1.push.out + P ∧ f1.push.fin + 8 * r ≤ 64 from
            ⟨hu1.1, hu2.2.1.trans HF1.out.2.1, hI5, hu2.2.2.1.trans HF1.out.2.2.2.1, hu2.2.2.2.trans HF1.out.2.2.2.2.1, by rw [hu1.2, hu2.1]; exact HF1.out.2.2.2.2.2.1, by rw [hu1.2]; exact HF1.out.2.2.2.2.2.2⟩)
          clear hA5 hu1 hu2 hI5 HO HA2 HF1
          generalize f1.push = f5 at *
          have k0 := HA5.out.k0
          have HO := Lib.hid (fpush_any HA5.out HF5.out.2.2.1 (by have := HF5.out.2.2.2.2.2.2; omega))
          go_wp2_with fail
          refine HO.out.mono ?_
          rintro e w6 ⟨rfl, hA6⟩
          have HA6 := Lib.hid hA6
          have hu1 := push_full1 HF5.out.2.2.1 HF5.out.1 (by rw [HF5.out.2.2.2.1]; exact HF5.out.2.2.2.2.2.1)
          have hu2 := push_keeps f5
          have hI5 := finv_push HF5.out.2.2.1 (by have := HF5.out.2.2.2.2.2.2; omega)
          have HF6 := Lib.hid (show f5.push.s.ia = 0 ∧ f5.push.s.oa = 0 ∧ FInv f5.push ∧ f5.push.s.P = P ∧ f5.push.s.W = N ∧ f5.push.fin = f5.push.out + P ∧ f5.push.fin + 8 * r ≤ 64 from
            ⟨hu1.1, hu2.2.1.trans HF5.out.2.1, hI5, hu2.2.2.1.trans HF5.out.2.2.2.1, hu2.2.2.2.trans HF5.out.2.2.2.2.1, by rw [hu1.2, hu2.1]; exact HF5.out.2.2.2.2.2.1, by rw [hu1.2]; exact HF5.out.2.2.2.2.2.2⟩)
          clear hA6 hu1 hu2 hI5 HO HA5 HF5 k0
          generalize f5.push = f6 at *
          have k0 := HA6.out.k0
          have k1 := HA6.out.k1
          have k2 := HA6.out.k2
          have HPQ := Lib.hid (show ∀ q, Calls Tryd.prog 12 #[.pointer (some ⟨b, 0, none⟩)] (w6.drewN q) fun e w' => e = .returned (.int .i64 P) ∧ w' = w6.drewN q from fun q => by
            have := places_q (HA6.out.below (below_drewN' _ q)).c
            rw [HF6.out.2.2.2.1] at this
            exact this)
          have HBQ := Lib.hid (show ∀ q, Calls Tryd.prog 15 #[.pointer (some ⟨b, 0, none⟩), .bool true] (w6.drewN q) fun e w' => e = .returned (.bool false) ∧ w' = w6.drewN q from fun q => by
            have := busy_q (HA6.out.below (below_drewN' _ q)).c true
            simpa [HF6.out.1] using this)
          have eq1 : IntKind.i64.wrap ((f6.fin : Int) - (f6.out : Int)) = (P : Int) := by have := HF6.out.2.2.2.2.2; rw [IntKind.wrap_i64]; omega
          go_wp2_with fail
          go_quiet (first | (go_at_call 15; exact Calls.quiet_of_same (HBQ.out _)) | (go_at_call 12; exact Calls.quiet_of_same (HPQ.out _)))
          have HA7 := Lib.hid (HA6.out.below (below_drewN' _ nq))
          clear HA6 k0 k1 k2 HPQ HBQ eq1
          generalize w6.drewN nq = w7 at *
          have ht9 := Lib.hid (show r % 2 ≤ P by omega)
          generalize r % 2 = t at *
          have hm2 : IntKind.i64.wrap (((P : Int) - (t : Int)) * (n : Int)) = (((P - t) * n : Nat) : Int) := by
            have : (P - t) * n ≤ 8 * 9 := Nat.mul_le_mul (by omega) hn9
            rw [show (P : Int) - (t : Int) = ((P - t : Nat) : Int) by have := ht9.out; omega, ← Int.natCast_mul, IntKind.wrap_i64]
            omega
          have hQn : (P - t) * n ≤ 8 * 9 := Nat.mul_le_mul (by omega) hn9
          have HS2 := Lib.hid (popAt_start HF6.out.2.2.1 HF6.out.1 HF6.out.2.1)
          have HQ0 := Lib.hid (Nat.zero_le ((P - t) * n))
          go_wp2_with fail
          go_loopw [11] (fun i wx => ∃ (k : Nat) (f7 : FS), k ≤ (P - t) * n ∧ i = .int .i64 k ∧ FAt w wx b mb lb x f7 ∧ PopAt f6 f7 k) (fun i _ => (P - t) * n - (intOf i).toNat)
          case atStart => exact ⟨0, f6, HQ0.out, rfl, HA7.out, HS2.out⟩
          case round =>
            clear HA7 HS2 HQ0
            obtain ⟨k, f7, hk, rfl, hA, hPO⟩ := hrel
            have k0 := hA.k0
            have HPL := Lib.hid (ctx_places hA.c)
            rw [hPO.p, HF6.out.2.2.2.1] at HPL
            have HA := Lib.hid hA
            have HPO := Lib.hid hPO
            clear hA hPO
            by_cases hlt : k < (P - t) * n
            · have b1 : (k : Int) < (((P - t) * n : Nat) : Int) := by omega
              have HN := Lib.hid (popAt_next HPO.out (c := P) HF6.out.2.2.2.2.2.1 (by rw [HF6.out.2.2.2.2.1, ← HNN.out]; exact Nat.lt_of_lt_of_le hlt (Nat.mul_le_mul_right n (Nat.sub_le _ _))))
              have hfb : f7.fin < 1000000 := by
                obtain ⟨a, j, -, -, -, -, e⟩ := HPO.out.ex
                have := HF6.out.2.2.2.2.2.2
                omega
              have HO := Lib.hid (fpop_any HA.out HPO.out.i hfb)
              clear HA HPO hfb
              generalize hQe : (P - t) * n = Qn at *
              have HQE := Lib.hid hQe
              clear hQe
              go_wp2_with fail
              refine HPL.out.mono ?_
              rintro e w4 ⟨rfl, rfl⟩
              go_wp2_with fail
              refine HO.out.mono ?_
              rintro e w4 ⟨rfl, hA4⟩
              have HA4 := Lib.hid hA4
              clear hA4 HO HPL
              go_wp2
              go_roundw
              case rel => exact ⟨k + 1, f7.pop, by have := HQE.out; omega, by go_num, HA4.out, HN.out⟩
              case measure => simp [intOf]; have := HQE.out; omega
            · obtain rfl : k = (P - t) * n := by omega
              have b1 : ¬ (((P - t) * n : Nat) : Int) < (((P - t) * n : Nat) : Int) := by omega
              obtain ⟨he1, he2, he3⟩ := popAt_end HPO.out (by rw [HF6.out.2.2.2.2.1, ← HNN.out])
              have HF7 := Lib.hid (show f7.s.ia = 0 ∧ f7.s.oa = 0 ∧ FInv f7 ∧ f7.s.P = P ∧ f7.s.W = N ∧ f7.fin ≤ f7.out + 1 ∧ f7.fin + 8 * r ≤ 64 from
                ⟨HPO.out.ia, he3, HPO.out.i, HPO.out.p.trans HF6.out.2.2.2.1, HPO.out.w.trans HF6.out.2.2.2.2.1, by have := HF6.out.2.2.2.2.2.1; have := ht9.out; omega, by have := HF6.out.2.2.2.2.2.2; omega⟩)
              have HS3 := Lib.hid (popAt_start HF7.out.2.2.1 HF7.out.1 HF7.out.2.1)
              clear HPO he1 he2 he3 HF6
              generalize (P - t) * n = Qn at *
              go_wp2_with fail
              refine HPL.out.mono ?_
              rintro e w4 ⟨rfl, rfl⟩
              clear HPL k0
              go_wp2_with fail
              go_loopw [12] (fun i wx => ∃ (k : Nat) (f8 : FS), k ≤ 9 ∧ i = .int .i64 k ∧ FAt w wx b mb lb x f8 ∧ PopAt f7 f8 k ∧ (f8.fin = f8.out → f8.s.oa = 0)) (fun i _ => 10 - (intOf i).toNat)
              case atStart => exact ⟨0, f7, by omega, rfl, HA.out, HS3.out, fun _ => HF7.out.2.1⟩
              case round =>
                clear HA HS3
                obtain ⟨k, f8, hk, rfl, hA, hPO, hoa⟩ := hrel
                have k0 := hA.k0
                have k1 := hA.k1
                have k2 := hA.k2
                have k5 := hA.k5
                have HA := Lib.hid hA
                have HPO := Lib.hid hPO
                have HOA := Lib.hid hoa
                clear hA hPO hoa
                have b1 : (k : Int) < 100 := by omega
                by_cases he : f8.fin = f8.out
                · have hx := HF7.out.2.2.2.2.2.2
                  have hx2 : f8.fin + 8 * r ≤ 64 := by
                    obtain ⟨a, j, -, -, -, -, e⟩ := HPO.out.ex
                    omega
                  have HE2 := Lib.hid (show Even f8 P N r from ⟨HPO.out.i, he, HPO.out.ia, HOA.out he, HPO.out.p.trans HF7.out.2.2.2.1, HPO.out.w.trans HF7.out.2.2.2.2.1, hx2⟩)
                  have b2 : ((f8.fin : Int) != (f8.out : Int)) = false := by simp [he]
                  clear HPO HOA hx hx2 HF7 he
                  go_wp2_with fail
                  go_quiet (fail)
                  have HA8 := Lib.hid (HA.out.below (below_drewN' _ nq))
                  clear HA k0 k1 k2 k5 b2
                  generalize wr.drewN nq = w8 at *
                  have k0 := HA8.out.k0
                  have HCO := Lib.hid (show Calls Tryd.prog 14 #[.pointer (some ⟨b, 0, none⟩)] w8 fun e w' => e = .returned (.int .i64 0) ∧ Below w8.heap.size w8 w' from by
                    have := ctx_count HA8.out.c
                    rw [finv_count HE2.out.i, HE2.out.e, Nat.sub_self] at this
                    exact this)
                  go_wp2_with fail
                  refine HCO.out.mono ?_
                  rintro e w9 ⟨rfl, hb9⟩
                  have HA9 := Lib.hid (HA8.out.below hb9)
                  clear hb9 HCO HA8 k0
                  have k0 := HA9.out.k0
                  have k5 := HA9.out.k5
                  have HBU := Lib.hid (show Calls Tryd.prog 15 #[.pointer (some ⟨b, 0, none⟩), .bool false] w9 fun e w' => e = .returned (.bool false) ∧ w9 = w' from by
                    have := ctx_busy HA9.out.c false
                    simpa [HE2.out.oa] using this)
                  go_wp2_with fail
                  refine HBU.out.mono ?_
                  rintro e w10 ⟨rfl, rfl⟩
                  go_wp2
                  go_roundw
                  case rel => exact ⟨r, f8, by omega, by go_num, HA9.out, HE2.out⟩
                  case measure => simp [intOf]
                · obtain ⟨hk8, hP1, hoa1⟩ := popAt_one HPO.out HF7.out.2.2.2.2.2.1 he
                  have hfb : f8.fin < 1000000 := by
                    obtain ⟨a, j, -, -, -, -, e⟩ := HPO.out.ex
                    have := HF7.out.2.2.2.2.2.2
                    omega
                  have HO := Lib.hid (show ∀ q, Calls Tryd.prog 16 #[.pointer (some ⟨x, 0, none⟩)] (wr.drewN q) fun e w' => e = .returned (.tuple #[]) ∧ FAt w w' b mb lb x f8.pop from fun q => fpop_any (HA.out.below (below_drewN' _ q)) HPO.out.i hfb)
                  have HN := Lib.hid (And.intro hP1 hoa1)
                  have b2 : ((f8.fin : Int) != (f8.out : Int)) = true := by simp; omega
                  clear HA HPO HOA hfb hP1 hoa1 he
                  go_wp2_with fail
                  go_quiet (fail)
                  go_wp2_with fail
                  refine (HO.out _).mono ?_
                  rintro e w8 ⟨rfl, hA8⟩
                  have HA8 := Lib.hid hA8
                  clear hA8 HO
                  go_wp2
                  go_roundw
                  case rel => exact ⟨k + 1, f8.pop, by omega, by go_num, HA8.out, HN.out.1, HN.out.2⟩
                  case measure => simp [intOf]; omega
end Go.Proofs.YtelfclcljdjohaaDoor
