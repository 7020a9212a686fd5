/- RingRow: what is pushed is popped, once, whole, and in its row: the walk. -/
import Derived.Test.YtelfclcljdjohaaDoorRingV
import Derived.Test.YtelfclcljdjohaaDoorTurns
namespace Go.Proofs.YtelfclcljdjohaaDoor
open Go.RowKit

def fs0 (P W : Nat) : FS := ⟨RS.new P W, 0, 0, false, false⟩
theorem finv_new (P W : Nat) (h1 : 1 ≤ P) (h8 : P ≤ 8) (g1 : 1 ≤ W) (g6 : W ≤ 6) : FInv (fs0 P W) := by
  have hk := ok_new P W h1 h8 g1 g6
  have hpw : 1 * 1 ≤ P * W := Nat.mul_le_mul h1 g1
  have e0 : (RS.new P W).hd = 0 := by
    simp only [RS.hd, RS.new]; rw [List.getElem?_replicate, if_pos (by omega)]; rfl
  have e1 : (RS.new P W).tl = 0 := by
    simp only [RS.tl, RS.new]; rw [List.getElem?_replicate, if_pos (by omega)]; rfl
  exact ⟨hk, Nat.le_refl _, by simp [fs0], by show (RS.new P W).tl = _; rw [e1]; simp [fs0], by show (RS.new P W).hd = _; rw [e0]; simp [fs0], fun m _ e => by simp [fs0] at e, fun e => by simp [fs0, RS.new] at e, fun e => by simp [fs0, RS.new] at e, fun e => by simp [fs0, RS.new] at e, fun e => by simp [fs0, RS.new] at e, fun e => by simp [fs0, RS.new] at e, fun e => by simp [fs0, RS.new] at e, fun e => by simp [fs0, RS.new] at e, fun e => by simp [fs0, RS.new] at e, fun e => by simp [fs0, RS.new] at e⟩
theorem finv_push {f : FS} (h : FInv f) (hb : f.fin < 1000000) : FInv f.push := (finv_stepW (finv_begun h hb).1 (finv_begun h hb).2).1
theorem finv_pop {f : FS} (h : FInv f) : FInv f.pop := (finv_stepR (finv_asked h).1 (finv_asked h).2).1
theorem stepW_P (s : RS) : s.stepW.1.P = s.P ∧ s.stepW.1.W = s.W := by unfold RS.stepW; repeat (first | exact ⟨rfl, rfl⟩ | split)
theorem stepR_P (s : RS) : s.stepR.1.P = s.P ∧ s.stepR.1.W = s.W := by unfold RS.stepR; repeat (first | exact ⟨rfl, rfl⟩ | split)
theorem push_le (f : FS) : f.push.fin ≤ f.fin + 1 := by
  have hd : f.begun.fin = f.fin := by unfold FS.begun; split <;> rfl
  unfold FS.push FS.stepW
  simp only []
  split <;> omega
theorem pop_fin (f : FS) : f.pop.fin = f.fin := by
  unfold FS.pop FS.stepR FS.asked
  split <;> rfl
set_option maxRecDepth 100000 in
set_option maxHeartbeats 3200000 in
theorem ringRow_law (n0 m0 : Int) (A : Option Addr) (len cap bs off : Nat) (P Q : Nat → Bool) (w : World) (hS : TurnIn w A len bs off P Q) (_ : len ≤ cap) (_ : cap ≤ maxLen) :
    Calls Tryd.prog 5 #[.int .i64 n0, .int .i64 m0, .slice A len cap] w fun e w' => e = .returned (.bool true) ∧ Below w.heap.size w w' := by
  go_enter Tryd.func5, Tryd.ntmps5
  go_wp2_with fail
  refine (lives_any w).mono ?_
  rintro e w1 ⟨rfl, hB1⟩
  go_wp2_with fail
  refine (ctx_new n0 m0 hB1).mono ?_
  rintro e w2 ⟨b, mb, lb, rfl, hB2, hC⟩
  have hs1 := hB1.size
  have hs2 := hB2.size
  have hP := placesOf_bd n0
  have hW := wordsOf_bd m0
  have HA := Lib.hid (show FAt w (w2.alloc (.cells (fCells b (fs0 (placesOf n0) (wordsOf m0))) 27)) b mb lb w2.heap.size (fs0 (placesOf n0) (wordsOf m0)) from
    ⟨(hC.more w2.heap.size _ (below_alloc (Nat.le_refl _) _) (Nat.le_refl _) (by simp)).less (fun k e => .inr e), Blk.new w2 27 _, by omega⟩)
  have HI := Lib.hid (finv_new _ _ hP.1 hP.2 hW.1 hW.2)
  have HZ := Lib.hid (show (fs0 (placesOf n0) (wordsOf m0)).fin = 0 from rfl)
  have HS := Lib.hid hS
  clear hB1 hB2 hC hs1 hs2 hP hW hS
  go_wp2
  change Code.wp _ _ _ _ (w2.alloc (.cells (fCells b (fs0 (placesOf n0) (wordsOf m0))) 27))
  generalize w2.alloc (.cells (fCells b (fs0 (placesOf n0) (wordsOf m0))) 27) = wL at *
  generalize fs0 (placesOf n0) (wordsOf m0) = f0 at *
  generalize w2.heap.size = x at *
  go_loopw [8] (fun i wr => ∃ (k : Nat) (f : FS), k ≤ len ∧ k ≤ 300 ∧ i = .int .i64 k ∧ FAt w wr b mb lb x f ∧ FInv f ∧ f.fin ≤ k) (fun i _ => len - (intOf i).toNat)
  case atStart => exact ⟨0, f0, Nat.zero_le _, by omega, rfl, HA.out, HI.out, by rw [HZ.out]; exact Nat.le_refl _⟩
  case round =>
    clear HA HI HZ f0
    obtain ⟨k, f, hk, hk3, rfl, hA, hI, hf⟩ := hrel
    have HA := Lib.hid hA
    have HI := Lib.hid hI
    have HF := Lib.hid hf
    clear hA hI hf
    by_cases hlt : k < len ∧ k < 300
    · obtain ⟨hlt, hlt3⟩ := hlt
      obtain rfl : A = some ⟨bs, off, none⟩ := HS.out.at_.resolve_right (by omega)
      have hSr := HS.out.below HA.out.c.bel
      have s0 := hSr.c0 k hlt
      have s1 := hSr.c1 k hlt
      have k0 := HA.out.k0
      have b1 : (k : Int) < (len : Int) := by omega
      have b2 : (k : Int) < 300 := by omega
      have b0 : (0 : Int) ≤ (k : Int) := by omega
      clear hSr
      go_upto_block 2 with (fail)
      go_cut [] (fun wx => ∃ f1 : FS, FAt w wx b mb lb x f1 ∧ FInv f1 ∧ f1.fin ≤ k + 1)
      case first =>
        cases hq : Q k
        · rw [hq] at s1
          cases hp : P k
          · rw [hp] at s0
            have HO := Lib.hid (fpop_any HA.out HI.out (by have := HF.out; omega))
            have HI2 := Lib.hid (finv_pop HI.out)
            have HF2 := Lib.hid (show f.pop.fin ≤ k + 1 by rw [pop_fin]; have := HF.out; omega)
            clear HA HI HF
            go_wp2_with fail
            refine HO.out.mono ?_
            rintro e w3 ⟨rfl, hA3⟩
            have HA3 := Lib.hid hA3
            clear hA3 HO
            go_wp2_with fail
            go_meet
            exact ⟨_, HA3.out, HI2.out, HF2.out⟩
          · rw [hp] at s0
            have HO := Lib.hid (fpush_any HA.out HI.out (by have := HF.out; omega))
            have HI2 := Lib.hid (finv_push HI.out (by have := HF.out; omega))
            have HF2 := Lib.hid (show f.push.fin ≤ k + 1 by have := push_le f; have := HF.out; omega)
            clear HA HI HF
            go_wp2_with fail
            refine HO.out.mono ?_
            rintro e w3 ⟨rfl, hA3⟩
            have HA3 := Lib.hid hA3
            clear hA3 HO
            go_wp2_with fail
            go_meet
            exact ⟨_, HA3.out, HI2.out, HF2.out⟩
        · rw [hq] at s1
          go_wp2_with fail
          go_still_tail 9, (by kernel_rfl)
          change wpList _ _ _ _ _ wr.drew
          have HD := Lib.hid (HA.out.below (Below.refl _ wr).drew)
          have HO := Lib.hid (ctx_drop HD.out.c (P k))
          generalize (!decide ((if P k then f.s.ia else f.s.oa) = 0)) = dd at HO
          go_wp2_with fail
          refine HO.out.mono ?_
          rintro e w3 ⟨rfl, hC3, hK3⟩
          have HW3 := Lib.hid (show FAt w w3 b mb lb x (f.dropped (P k)) from HD.out.kept hC3 hK3)
          have HI3 := Lib.hid (finv_dropped HI.out (P k))
          have HF3 := Lib.hid (show (f.dropped (P k)).fin ≤ k + 1 by have := HF.out; show f.fin ≤ k + 1; omega)
          clear hC3 hK3 HA HI HF HO HD
          generalize f.dropped (P k) = f3 at *
          go_wp2_with fail
          go_meet
          exact ⟨_, HW3.out, HI3.out, HF3.out⟩
      case rest =>
        obtain ⟨f1, hA1, hI1, hf1⟩ := hcut
        have HA1 := Lib.hid hA1
        have HI1 := Lib.hid hI1
        have HF1 := Lib.hid hf1
        have k0 := hA1.k0
        have k1 := hA1.k1
        have k2 := hA1.k2
        have k5 := hA1.k5
        have hd1 := hI1.d1
        have hd2 := hI1.d2
        have HP := Lib.hid (And.intro hI1.ok.p1 hI1.ok.p8)
        have HCO := Lib.hid (show ∀ W', Below wc.heap.size wc W' → Calls Tryd.prog 14 #[.pointer (some ⟨b, 0, none⟩)] W' fun e w' => e = .returned (.int .i64 ((f1.fin - f1.out : Nat) : Int)) ∧ Below wc.heap.size wc w' ∧ w'.cell? ⟨x, 0, none⟩ = some (.pointer (some ⟨b, 0, none⟩)) ∧ w'.cell? ⟨x, 1, none⟩ = some (.int .i64 f1.fin) ∧ w'.cell? ⟨x, 2, none⟩ = some (.int .i64 f1.out) ∧ w'.cell? ⟨x, 5, none⟩ = some (.bool true) from fun W' hb => by
          have h' := hA1.below hb
          have := ctx_count h'.c
          rw [finv_count hI1] at this
          exact this.mono fun e w' ⟨he, hb'⟩ => ⟨he, hb.trans (hb'.mono hb.size), (h'.below hb').k0, (h'.below hb').k1, (h'.below hb').k2, (h'.below hb').k5⟩)
        have HPL := Lib.hid (show ∀ W', Below wc.heap.size wc W' → Calls Tryd.prog 12 #[.pointer (some ⟨b, 0, none⟩)] W' fun e w' => e = .returned (.int .i64 f1.s.P) ∧ W' = w' from fun W' hb => ctx_places (hA1.below hb).c)
        have hbw : Below wc.heap.size wc wc := Below.refl _ _
        have eq1 : IntKind.i64.wrap ((f1.fin : Int) - (f1.out : Int)) = ((f1.fin - f1.out : Nat) : Int) := by rw [IntKind.wrap_i64]; omega
        have hle : ((f1.fin - f1.out : Nat) : Int) ≤ (f1.s.P : Int) := by omega
        have hge : (0 : Int) ≤ ((f1.fin - f1.out : Nat) : Int) := by omega
        clear hA1 hI1 hf1 HA HI HF s0 s1 hd1 hd2
        generalize f1.fin - f1.out = cn at *
        go_wp2_with fail
        go_region_held3 (fun w' => Below wc.heap.size wc w' ∧ w'.cell? ⟨x, 0, none⟩ = some (.pointer (some ⟨b, 0, none⟩)) ∧ w'.cell? ⟨x, 1, none⟩ = some (.int .i64 f1.fin) ∧ w'.cell? ⟨x, 2, none⟩ = some (.int .i64 f1.out) ∧ w'.cell? ⟨x, 5, none⟩ = some (.bool true))
          (first | exact ⟨hbw, k0, k1, k2, k5⟩ | exact ⟨hbw.drew, k0, k1, k2, k5⟩)
          (first
            | (go_at_call 14; refine (HCO.out _ (by first | exact hbw | exact hbw.drew)).mono ?_; rintro e w' ⟨rfl, hbw, k0, k1, k2, k5⟩)
            | (go_at_call 12; refine (HPL.out _ (by first | exact hbw | exact hbw.drew)).mono ?_; rintro e w' ⟨rfl, rfl⟩))
        go_wp2
        go_round
        case rel => exact ⟨k + 1, f1, by omega, by omega, by go_num, HA1.out.below hbw, HI1.out, HF1.out⟩
        case measure => simp [intOf]; omega
    · have hB := Lib.hid HA.out.c.bel
      clear HA HI HF
      by_cases h1 : k < len
      · obtain rfl : k = 300 := by omega
        go_wp2
        go_ret
        exact ⟨rfl, hB.out⟩
      · go_wp2
        go_ret
        exact ⟨rfl, hB.out⟩
end Go.Proofs.YtelfclcljdjohaaDoor
