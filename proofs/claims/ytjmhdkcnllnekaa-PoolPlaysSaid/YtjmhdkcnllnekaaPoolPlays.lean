/- PoolPlays: what a pool answers, and has, in whatever row, is what the reference says: the walk. -/
import Derived.Test.YtjmhdkcnllnekaaPoolPlaysP
import Derived.Deep.DeepCutAuto
import Derived.Deep.RegionHeld3
namespace Go.Proofs.Ytjmhdkcnllnekaa
open Go.RowKit

set_option maxRecDepth 100000 in
set_option maxHeartbeats 25600000 in
theorem poolPlays_walk (n0 : Int) (A : Option Addr) (len cap bs off : Nat) (K S O : Nat → Int) (w : World) (hS : Script w A len bs off K S O) (hlc : len ≤ cap) (hcap : cap ≤ maxLen) :
    Calls Try.prog 6 #[.int .i64 n0, .slice A len cap] w fun e w' => e = .returned (.bool true) ∧ Below w.heap.size w w' := by
  have HE1 := Lib.hid (fun w => early_any A len cap w hlc hcap)
  have hn64 := slotsOf_le n0
  have hS' := Lib.hid (hS.less (m := min len 80) (by omega))
  have hm : min len 80 ≤ 80 := by omega
  have hmc : min len 80 ≤ cap := by omega
  unfold maxLen at hcap
  clear hS hlc
  generalize min len 80 = L at *
  go_enter Try.func6, Try.ntmps6
  go_wp2_with fail
  refine (lives_any w).mono ?_
  rintro e w1 ⟨rfl, hB1⟩
  go_wp2_with fail
  refine (ctx_new n0 hB1).mono ?_
  rintro e w2 ⟨rfl, C2⟩
  generalize w1.heap.size = b at *
  go_wp2_with fail
  refine (refnew_rr n0 w2 C2.bel.size).mono ?_
  rintro e w3 ⟨u0, u1, u2, rfl, hR3, hb3⟩
  have HP := Lib.hid (pp_new C2 hR3 hb3)
  obtain ⟨A0, c0, rfl⟩ := own_form hR3.o.r0
  obtain ⟨A1, c1, rfl⟩ := own_form hR3.o.r1
  obtain ⟨A2, c2, rfl⟩ := own_form hR3.o.r2
  have hpn : (PS.new (slotsOf n0)).n = slotsOf n0 := rfl
  rw [hpn] at HP ⊢
  clear hR3 hb3 C2 hB1 hpn
  have HP0 := Lib.hid (And.intro (tuLe_new (slotsOf n0) 0) (And.intro (show (PS.new (slotsOf n0)).n = slotsOf n0 from rfl) (inv_new (slotsOf n0))))
  generalize PS.new (slotsOf n0) = p0 at *
  generalize slotsOf n0 = n at *
  go_wp2_with (refine wpList_store_row rfl 43 _ _ rfl w3.heap.size #[.slice A0 n c0, .slice A1 n c1, .slice A2 n c2] rfl rfl 43 zero3 (heap_alloc_new w3 _) info43 rfl (ones3 _ _ _ _ _ _ _ _ _) ?_)
  refine (HE1.out _).mono ?_
  rintro e w4 ⟨rfl, rfl⟩
  clear HE1
  go_wp2_with fail
  change Code.wp _ _ _ _ ((w3.alloc (.cells zero3 43)).setRow w3.heap.size #[.slice A0 n c0, .slice A1 n c1, .slice A2 n c2])
  obtain ⟨X0, HP⟩ : ∃ X0, Hid (PP w ((w3.alloc (.cells zero3 43)).setRow w3.heap.size #[.slice A0 n c0, .slice A1 n c1, .slice A2 n c2]) b w3.heap.size X0 (.slice A0 n c0) (.slice A1 n c1) (.slice A2 n c2) p0 p0) := ⟨_, HP⟩
  generalize (w3.alloc (.cells zero3 43)).setRow w3.heap.size #[.slice A0 n c0, .slice A1 n c1, .slice A2 n c2] = wL at *
  generalize w3.heap.size = x at *
  go_loopw [7] (fun i wx => ∃ (k : Nat) (X : Nat → Prop) (A0 : Option Addr) (c0 : Nat) (A1 : Option Addr) (c1 : Nat) (A2 : Option Addr) (c2 : Nat) (p : PS), k ≤ L ∧ i = .int .i64 k ∧ PP w wx b x X (.slice A0 n c0) (.slice A1 n c1) (.slice A2 n c2) p p ∧ p.tuLe k ∧ p.n = n ∧ p.inv) (fun i _ => L - (intOf i).toNat)
  case atStart => exact ⟨0, X0, A0, c0, A1, c1, A2, c2, p0, Nat.zero_le _, rfl, HP.out, HP0.out⟩
  case round =>
    clear HP HP0
    obtain ⟨k, X, A0, c0, A1, c1, A2, c2, p, hk, rfl, hP, ht, hpn, hinv⟩ := hrel
    have HP := Lib.hid hP
    have HT := Lib.hid ht
    have HNN := Lib.hid hpn
    have HI := Lib.hid hinv
    clear hP ht hpn hinv
    by_cases hlt : k < L
    · obtain rfl : A = some ⟨bs, off, none⟩ := hS'.out.at_.resolve_right (by omega)
      have hSr := hS'.out.below HP.out.c.bel
      have s0 := hSr.c0 k hlt
      have s1 := hSr.c1 k hlt
      have s2 := hSr.c2 k hlt
      obtain ⟨k0, k1⟩ := hSr.bk k hlt
      clear hSr
      have HT2 := Lib.hid (tuLe_mono HT.out (show k ≤ k + 1 by omega))
      go_wp2_with fail
      refine (kind_any (K k) (S k) (O k) _ k0 k1).mono ?_
      rintro e w5 ⟨rfl, hB5⟩
      have hz := Blk.new wr 31 #[.int .i64 (K k), .int .i64 (S k), .int .i64 (O k)]
      have hba : Below wr.heap.size wr (wr.alloc (.cells #[.int .i64 (K k), .int .i64 (S k), .int .i64 (O k)] 31)) := below_alloc (Nat.le_refl _) _
      have HZ := Lib.hid (hz.below hB5 hz.lt)
      have HP5 := Lib.hid ((HP.out.go hba).go hB5)
      have hzx : wr.heap.size ≠ x := by have := HP.out.k.lt; omega
      have hzb : wr.heap.size ≠ b := by have := HP.out.c.lt; omega
      have hzX : ¬ X wr.heap.size := fun e => by have := HP.out.xl _ e; omega
      have hz5 : wr.heap.size < w5.heap.size := HZ.out.lt
      have hks : kindOf (K k) = 0 ∨ kindOf (K k) = 1 ∨ kindOf (K k) = 2 ∨ kindOf (K k) = 3 := by unfold kindOf; omega
      clear hB5 hz hba HP s0 s1 s2 k0 k1
      generalize wr.heap.size = z at *
      generalize kindOf (K k) = kd at *
      have c1' : w5.cell? ⟨z, 1, none⟩ = some (.int .i64 (S k)) := (HZ.out.cell 1).trans rfl
      have c2' : w5.cell? ⟨z, 2, none⟩ = some (.int .i64 (O k)) := (HZ.out.cell 2).trans rfl
      go_upto_block 2 with (fail)
      go_cut [9] (fun v wx => v = .bool true ∧ ∃ (X2 : Nat → Prop) (A0 : Option Addr) (c0 : Nat) (A1 : Option Addr) (c1 : Nat) (A2 : Option Addr) (c2 : Nat) (p2 : PS), PP w wx b x X2 (.slice A0 n c0) (.slice A1 n c1) (.slice A2 n c2) p2 p2 ∧ Blk wx z 31 #[.int .i64 (K k), .int .i64 (S k), .int .i64 (O k)] ∧ p2.tuLe (k + 1) ∧ p2.n = n ∧ p2.inv)
      case first =>
        rcases hks with rfl | rfl | rfl | rfl
        · as_aux_lemma =>
            go_wp2_with (refine wpList_load_row rfl 43 _ rfl x rfl 43 _ (0, 0) _ HP5.out.k Try.underlying43 rfl info43 ?_)
            refine (reftake_any HP5.out.c.bel HP5.out.r (by rw [HNN.out]; exact hn64) HI.out HT.out (by omega) (O k)).mono ?_
            rintro e w6 ⟨u0, u1, u2, rfl, hr, hb, hf⟩
            obtain ⟨B0, d0, rfl⟩ := own_form hr.o.r0
            obtain ⟨B1, d1, rfl⟩ := own_form hr.o.r1
            obtain ⟨B2, d2, rfl⟩ := own_form hr.o.r2
            rw [show ((p.take (O k)).1).n = n from (take_n p (O k)).trans HNN.out] at hr ⊢
            have HP6 := Lib.hid (HP5.out.told hr hb hf)
            have hxl : x < w6.heap.size := Nat.lt_of_lt_of_le HP5.out.k.lt hf.1
            have hzl : z < w6.heap.size := Nat.lt_of_lt_of_le hz5 hf.1
            have HN := Lib.hid (show Blk (w6.alloc (.cells zero3 43)) w6.heap.size 43 zero3 from heap_alloc_new w6 _)
            have HN1 := Lib.hid (setRow3 (w6.alloc (.cells zero3 43)) w6.heap.size (.slice B0 n d0) (.slice B1 n d1) (.slice B2 n d2) HN.out)
            have HX := Lib.hid (show Blk ((w6.alloc (.cells zero3 43)).setRow w6.heap.size #[.slice B0 n d0, .slice B1 n d1, .slice B2 n d2]) x 43 #[.slice A0 n c0, .slice A1 n c1, .slice A2 n c2] from (setRow_other _ _ _ _ (by omega)).trans ((Below.heap_alloc _ _ _ hxl).trans ((hf.2 x HP5.out.k.lt HP5.out.nx).trans HP5.out.k)))
            have HZ6 := Lib.hid (show Blk (((w6.alloc (.cells zero3 43)).setRow w6.heap.size #[.slice B0 n d0, .slice B1 n d1, .slice B2 n d2]).setRow x #[.slice B0 n d0, .slice B1 n d1, .slice B2 n d2]) z 31 #[.int .i64 (K k), .int .i64 (S k), .int .i64 (O k)] from (setRow_other _ _ _ _ hzx).trans ((setRow_other _ _ _ _ (by omega)).trans ((Below.heap_alloc _ _ _ hzl).trans ((hf.2 z hz5 hzX).trans HZ.out))))
            have k_S : (((w6.alloc (.cells zero3 43)).setRow w6.heap.size #[.slice B0 n d0, .slice B1 n d1, .slice B2 n d2]).setRow x #[.slice B0 n d0, .slice B1 n d1, .slice B2 n d2]).cell? ⟨z, 1, none⟩ = some (.int .i64 (S k)) := (HZ6.out.cell 1).trans rfl
            have k_O : (((w6.alloc (.cells zero3 43)).setRow w6.heap.size #[.slice B0 n d0, .slice B1 n d1, .slice B2 n d2]).setRow x #[.slice B0 n d0, .slice B1 n d1, .slice B2 n d2]).cell? ⟨z, 2, none⟩ = some (.int .i64 (O k)) := (HZ6.out.cell 2).trans rfl
            simp only [zero3] at k_S k_O
            clear hr hb hf
            go_wp2_with (first
              | (refine wpList_load_row rfl 43 _ rfl w6.heap.size rfl 43 _ (0, 0) _ HN1.out Try.underlying43 rfl info43 ?_)
              | (refine wpList_store_row rfl 43 _ _ rfl w6.heap.size #[.slice B0 n d0, .slice B1 n d1, .slice B2 n d2] rfl rfl 43 zero3 HN.out info43 rfl (ones3 _ _ _ _ _ _ _ _ _) ?_)
              | (refine wpList_store_row rfl 43 _ _ rfl x #[.slice B0 n d0, .slice B1 n d1, .slice B2 n d2] rfl rfl 43 _ HX.out info43 rfl (ones3 _ _ _ _ _ _ _ _ _) ?_))
            refine (ctx_takeF HP6.out.c (O k) HT.out (by omega)).mono ?_
            rintro e w7 ⟨rfl, hC7, hF7⟩
            have HP7 := Lib.hid (HP6.out.pool hC7 hF7)
            have HZ7 := Lib.hid (HZ6.out.of (hF7.2 z (by simp; omega) hzb))
            clear hC7 hF7 HP6 HN HN1 HX k_S k_O HZ6 c1' c2'
            generalize (p.take (O k)).2.1 = rt1 at *
            generalize (p.take (O k)).2.2 = rt2 at *
            go_wp2_with fail
            go_meet
            exact ⟨by simp, _, _, _, _, _, _, _, _, HP7.out, HZ7.out, tuLe_take HT.out _, (take_n p (O k)).trans HNN.out, inv_take HI.out _⟩
        · as_aux_lemma =>
            go_wp2_with (refine wpList_load_row rfl 43 _ rfl x rfl 43 _ (0, 0) _ HP5.out.k Try.underlying43 rfl info43 ?_)
            refine (reftake_any HP5.out.c.bel HP5.out.r (by rw [HNN.out]; exact hn64) HI.out HT.out (by omega) (O k)).mono ?_
            rintro e w6 ⟨u0, u1, u2, rfl, hr, hb, hf⟩
            obtain ⟨B0, d0, rfl⟩ := own_form hr.o.r0
            obtain ⟨B1, d1, rfl⟩ := own_form hr.o.r1
            obtain ⟨B2, d2, rfl⟩ := own_form hr.o.r2
            rw [show ((p.take (O k)).1).n = n from (take_n p (O k)).trans HNN.out] at hr ⊢
            have HP6 := Lib.hid (HP5.out.told hr hb hf)
            have hxl : x < w6.heap.size := Nat.lt_of_lt_of_le HP5.out.k.lt hf.1
            have hzl : z < w6.heap.size := Nat.lt_of_lt_of_le hz5 hf.1
            have HN := Lib.hid (show Blk (w6.alloc (.cells zero3 43)) w6.heap.size 43 zero3 from heap_alloc_new w6 _)
            have HN1 := Lib.hid (setRow3 (w6.alloc (.cells zero3 43)) w6.heap.size (.slice B0 n d0) (.slice B1 n d1) (.slice B2 n d2) HN.out)
            have HX := Lib.hid (show Blk ((w6.alloc (.cells zero3 43)).setRow w6.heap.size #[.slice B0 n d0, .slice B1 n d1, .slice B2 n d2]) x 43 #[.slice A0 n c0, .slice A1 n c1, .slice A2 n c2] from (setRow_other _ _ _ _ (by omega)).trans ((Below.heap_alloc _ _ _ hxl).trans ((hf.2 x HP5.out.k.lt HP5.out.nx).trans HP5.out.k)))
            have HZ6 := Lib.hid (show Blk (((w6.alloc (.cells zero3 43)).setRow w6.heap.size #[.slice B0 n d0, .slice B1 n d1, .slice B2 n d2]).setRow x #[.slice B0 n d0, .slice B1 n d1, .slice B2 n d2]) z 31 #[.int .i64 (K k), .int .i64 (S k), .int .i64 (O k)] from (setRow_other _ _ _ _ hzx).trans ((setRow_other _ _ _ _ (by omega)).trans ((Below.heap_alloc _ _ _ hzl).trans ((hf.2 z hz5 hzX).trans HZ.out))))
            have k_S : (((w6.alloc (.cells zero3 43)).setRow w6.heap.size #[.slice B0 n d0, .slice B1 n d1, .slice B2 n d2]).setRow x #[.slice B0 n d0, .slice B1 n d1, .slice B2 n d2]).cell? ⟨z, 1, none⟩ = some (.int .i64 (S k)) := (HZ6.out.cell 1).trans rfl
            have k_O : (((w6.alloc (.cells zero3 43)).setRow w6.heap.size #[.slice B0 n d0, .slice B1 n d1, .slice B2 n d2]).setRow x #[.slice B0 n d0, .slice B1 n d1, .slice B2 n d2]).cell? ⟨z, 2, none⟩ = some (.int .i64 (O k)) := (HZ6.out.cell 2).trans rfl
            simp only [zero3] at k_S k_O
            clear hr hb hf
            go_wp2_with (first
              | (refine wpList_load_row rfl 43 _ rfl w6.heap.size rfl 43 _ (0, 0) _ HN1.out Try.underlying43 rfl info43 ?_)
              | (refine wpList_store_row rfl 43 _ _ rfl w6.heap.size #[.slice B0 n d0, .slice B1 n d1, .slice B2 n d2] rfl rfl 43 zero3 HN.out info43 rfl (ones3 _ _ _ _ _ _ _ _ _) ?_)
              | (refine wpList_store_row rfl 43 _ _ rfl x #[.slice B0 n d0, .slice B1 n d1, .slice B2 n d2] rfl rfl 43 _ HX.out info43 rfl (ones3 _ _ _ _ _ _ _ _ _) ?_))
            refine (ctx_takeF HP6.out.c (O k) HT.out (by omega)).mono ?_
            rintro e w7 ⟨rfl, hC7, hF7⟩
            have HP7 := Lib.hid (HP6.out.pool hC7 hF7)
            have HZ7 := Lib.hid (HZ6.out.of (hF7.2 z (by simp; omega) hzb))
            clear hC7 hF7 HP6 HN HN1 HX k_S k_O HZ6 c1' c2'
            generalize (p.take (O k)).2.1 = rt1 at *
            generalize (p.take (O k)).2.2 = rt2 at *
            go_wp2_with fail
            go_meet
            exact ⟨by simp, _, _, _, _, _, _, _, _, HP7.out, HZ7.out, tuLe_take HT.out _, (take_n p (O k)).trans HNN.out, inv_take HI.out _⟩
        · as_aux_lemma =>
            go_wp2_with (refine wpList_load_row rfl 43 _ rfl x rfl 43 _ (0, 0) _ HP5.out.k Try.underlying43 rfl info43 ?_)
            refine (refgive_any HP5.out.c.bel HP5.out.r (by rw [HNN.out]; exact hn64) (S k) (O k)).mono ?_
            rintro e w6 ⟨u0, u1, u2, rfl, hr, hb, hf⟩
            obtain ⟨B0, d0, rfl⟩ := own_form hr.o.r0
            obtain ⟨B1, d1, rfl⟩ := own_form hr.o.r1
            obtain ⟨B2, d2, rfl⟩ := own_form hr.o.r2
            rw [show ((p.give (S k) (O k)).1).n = n from (give_n p (S k) (O k)).trans HNN.out] at hr ⊢
            have HP6 := Lib.hid (HP5.out.told hr hb hf)
            have hxl : x < w6.heap.size := Nat.lt_of_lt_of_le HP5.out.k.lt hf.1
            have hzl : z < w6.heap.size := Nat.lt_of_lt_of_le hz5 hf.1
            have HN := Lib.hid (show Blk (w6.alloc (.cells zero3 43)) w6.heap.size 43 zero3 from heap_alloc_new w6 _)
            have HN1 := Lib.hid (setRow3 (w6.alloc (.cells zero3 43)) w6.heap.size (.slice B0 n d0) (.slice B1 n d1) (.slice B2 n d2) HN.out)
            have HX := Lib.hid (show Blk ((w6.alloc (.cells zero3 43)).setRow w6.heap.size #[.slice B0 n d0, .slice B1 n d1, .slice B2 n d2]) x 43 #[.slice A0 n c0, .slice A1 n c1, .slice A2 n c2] from (setRow_other _ _ _ _ (by omega)).trans ((Below.heap_alloc _ _ _ hxl).trans ((hf.2 x HP5.out.k.lt HP5.out.nx).trans HP5.out.k)))
            have HZ6 := Lib.hid (show Blk (((w6.alloc (.cells zero3 43)).setRow w6.heap.size #[.slice B0 n d0, .slice B1 n d1, .slice B2 n d2]).setRow x #[.slice B0 n d0, .slice B1 n d1, .slice B2 n d2]) z 31 #[.int .i64 (K k), .int .i64 (S k), .int .i64 (O k)] from (setRow_other _ _ _ _ hzx).trans ((setRow_other _ _ _ _ (by omega)).trans ((Below.heap_alloc _ _ _ hzl).trans ((hf.2 z hz5 hzX).trans HZ.out))))
            have k_S : (((w6.alloc (.cells zero3 43)).setRow w6.heap.size #[.slice B0 n d0, .slice B1 n d1, .slice B2 n d2]).setRow x #[.slice B0 n d0, .slice B1 n d1, .slice B2 n d2]).cell? ⟨z, 1, none⟩ = some (.int .i64 (S k)) := (HZ6.out.cell 1).trans rfl
            have k_O : (((w6.alloc (.cells zero3 43)).setRow w6.heap.size #[.slice B0 n d0, .slice B1 n d1, .slice B2 n d2]).setRow x #[.slice B0 n d0, .slice B1 n d1, .slice B2 n d2]).cell? ⟨z, 2, none⟩ = some (.int .i64 (O k)) := (HZ6.out.cell 2).trans rfl
            simp only [zero3] at k_S k_O
            clear hr hb hf
            go_wp2_with (first
              | (refine wpList_load_row rfl 43 _ rfl w6.heap.size rfl 43 _ (0, 0) _ HN1.out Try.underlying43 rfl info43 ?_)
              | (refine wpList_store_row rfl 43 _ _ rfl w6.heap.size #[.slice B0 n d0, .slice B1 n d1, .slice B2 n d2] rfl rfl 43 zero3 HN.out info43 rfl (ones3 _ _ _ _ _ _ _ _ _) ?_)
              | (refine wpList_store_row rfl 43 _ _ rfl x #[.slice B0 n d0, .slice B1 n d1, .slice B2 n d2] rfl rfl 43 _ HX.out info43 rfl (ones3 _ _ _ _ _ _ _ _ _) ?_))
            refine (ctx_giveF HP6.out.c (S k) (O k)).mono ?_
            rintro e w7 ⟨rfl, hC7, hF7⟩
            have HP7 := Lib.hid (HP6.out.pool hC7 hF7)
            have HZ7 := Lib.hid (HZ6.out.of (hF7.2 z (by simp; omega) hzb))
            clear hC7 hF7 HP6 HN HN1 HX k_S k_O HZ6 c1' c2'
            generalize (p.give (S k) (O k)).2 = rt1 at *
            go_wp2_with fail
            go_meet
            exact ⟨by simp, _, _, _, _, _, _, _, _, HP7.out, HZ7.out, tuLe_give HT2.out _ _, (give_n p (S k) (O k)).trans HNN.out, inv_give HI.out _ _⟩
        · as_aux_lemma =>
            go_wp2_with (refine wpList_load_row rfl 43 _ rfl x rfl 43 _ (0, 0) _ HP5.out.k Try.underlying43 rfl info43 ?_)
            refine (reflet_any HP5.out.c.bel HP5.out.r (by rw [HNN.out]; exact hn64) (O k)).mono ?_
            rintro e w6 ⟨u0, u1, u2, rfl, hr, hb, hf⟩
            obtain ⟨B0, d0, rfl⟩ := own_form hr.o.r0
            obtain ⟨B1, d1, rfl⟩ := own_form hr.o.r1
            obtain ⟨B2, d2, rfl⟩ := own_form hr.o.r2
            rw [show (p.lets (O k)).n = n from (lets_n p (O k)).trans HNN.out] at hr ⊢
            have HP6 := Lib.hid (HP5.out.told hr hb hf)
            have hxl : x < w6.heap.size := Nat.lt_of_lt_of_le HP5.out.k.lt hf.1
            have hzl : z < w6.heap.size := Nat.lt_of_lt_of_le hz5 hf.1
            have HN := Lib.hid (show Blk (w6.alloc (.cells zero3 43)) w6.heap.size 43 zero3 from heap_alloc_new w6 _)
            have HN1 := Lib.hid (setRow3 (w6.alloc (.cells zero3 43)) w6.heap.size (.slice B0 n d0) (.slice B1 n d1) (.slice B2 n d2) HN.out)
            have HX := Lib.hid (show Blk ((w6.alloc (.cells zero3 43)).setRow w6.heap.size #[.slice B0 n d0, .slice B1 n d1, .slice B2 n d2]) x 43 #[.slice A0 n c0, .slice A1 n c1, .slice A2 n c2] from (setRow_other _ _ _ _ (by omega)).trans ((Below.heap_alloc _ _ _ hxl).trans ((hf.2 x HP5.out.k.lt HP5.out.nx).trans HP5.out.k)))
            have HZ6 := Lib.hid (show Blk (((w6.alloc (.cells zero3 43)).setRow w6.heap.size #[.slice B0 n d0, .slice B1 n d1, .slice B2 n d2]).setRow x #[.slice B0 n d0, .slice B1 n d1, .slice B2 n d2]) z 31 #[.int .i64 (K k), .int .i64 (S k), .int .i64 (O k)] from (setRow_other _ _ _ _ hzx).trans ((setRow_other _ _ _ _ (by omega)).trans ((Below.heap_alloc _ _ _ hzl).trans ((hf.2 z hz5 hzX).trans HZ.out))))
            have k_S : (((w6.alloc (.cells zero3 43)).setRow w6.heap.size #[.slice B0 n d0, .slice B1 n d1, .slice B2 n d2]).setRow x #[.slice B0 n d0, .slice B1 n d1, .slice B2 n d2]).cell? ⟨z, 1, none⟩ = some (.int .i64 (S k)) := (HZ6.out.cell 1).trans rfl
            have k_O : (((w6.alloc (.cells zero3 43)).setRow w6.heap.size #[.slice B0 n d0, .slice B1 n d1, .slice B2 n d2]).setRow x #[.slice B0 n d0, .slice B1 n d1, .slice B2 n d2]).cell? ⟨z, 2, none⟩ = some (.int .i64 (O k)) := (HZ6.out.cell 2).trans rfl
            simp only [zero3] at k_S k_O
            clear hr hb hf
            go_wp2_with (first
              | (refine wpList_load_row rfl 43 _ rfl w6.heap.size rfl 43 _ (0, 0) _ HN1.out Try.underlying43 rfl info43 ?_)
              | (refine wpList_store_row rfl 43 _ _ rfl w6.heap.size #[.slice B0 n d0, .slice B1 n d1, .slice B2 n d2] rfl rfl 43 zero3 HN.out info43 rfl (ones3 _ _ _ _ _ _ _ _ _) ?_)
              | (refine wpList_store_row rfl 43 _ _ rfl x #[.slice B0 n d0, .slice B1 n d1, .slice B2 n d2] rfl rfl 43 _ HX.out info43 rfl (ones3 _ _ _ _ _ _ _ _ _) ?_))
            refine (ctx_letF HP6.out.c (O k)).mono ?_
            rintro e w7 ⟨rfl, hC7, hF7⟩
            have HP7 := Lib.hid (HP6.out.pool hC7 hF7)
            have HZ7 := Lib.hid (HZ6.out.of (hF7.2 z (by simp; omega) hzb))
            clear hC7 hF7 HP6 HN HN1 HX k_S k_O HZ6 c1' c2'
            generalize ((ownOf p (O k)).length : Int) = rt1 at *
            go_wp2_with fail
            go_meet
            exact ⟨by simp, _, _, _, _, _, _, _, _, HP7.out, HZ7.out, tuLe_lets HT2.out _, (lets_n p (O k)).trans HNN.out, inv_lets HI.out _⟩
      case rest =>
        obtain ⟨rfl, X2, A0, c0, A1, c1, A2, c2, p2, hP2, hZ2, hT2, hN2, hI2⟩ := hcut
        have HP := Lib.hid hP2
        have HZ := Lib.hid hZ2
        have HT2 := Lib.hid hT2
        have HN2 := Lib.hid hN2
        have HI2 := Lib.hid hI2
        clear hP2 hZ2 hT2 hN2 hI2
        go_upto_region 25 with (fail)
        go_cut [133] (fun v wx => v = .bool false ∧ PP w wx b x X2 (.slice A0 n c0) (.slice A1 n c1) (.slice A2 n c2) p2 p2)
        case first =>
          have q0 : ∀ w', Below wc.heap.size wc w' → w'.cell? ⟨x, 0, none⟩ = some (.slice A0 n c0) := fun w' h => ((HP.out.go h).k.cell 0).trans rfl
          have qO : ∀ w', Below wc.heap.size wc w' → w'.cell? ⟨z, 2, none⟩ = some (.int .i64 (O k)) := fun w' h => ((HZ.out.below h HZ.out.lt).cell 2).trans rfl
          have hp64 : p2.n ≤ 64 := by rw [HN2.out]; exact hn64
          have hlo : (intl (ownOf p2 (O k))).length ≤ 1073741824 := by
            have := findTo_le p2 true (O k) p2.n
            simp only [intl, List.length_map]
            unfold ownOf
            omega
          have HLO := Lib.hid hlo
          have HFR := Lib.hid (show ∀ w', Below wc.heap.size wc w' → Calls Try.prog 17 #[.pointer (some ⟨b, 0, none⟩)] w' fun e w'' => e = .returned (.int .i64 ((freeOf p2).length : Int)) ∧ Below w'.heap.size w' w'' from fun w' h => free_any b p2 w' (HP.out.go h).c.at_)
          have HFQ := Lib.hid (show ∀ w', Below wc.heap.size wc w' → Calls Try.prog 26 #[.agg #[.slice A0 n c0, .slice A1 n c1, .slice A2 n c2]] w' fun e w'' => e = .returned (.int .i64 ((freeOf p2).length : Int)) ∧ Below w'.heap.size w' w'' from fun w' h => reffree_any (HP.out.go h).r HI2.out hp64)
          have HLE := Lib.hid (show ∀ w', Below wc.heap.size wc w' → Calls Try.prog 16 #[.pointer (some ⟨b, 0, none⟩)] w' fun e w'' => e = .returned (.int .i64 (n : Int)) ∧ w' = w'' from fun w' h => by
            have := len_any b p2 w' (HP.out.go h).c.at_
            rw [HN2.out] at this
            exact this)
          generalize ((freeOf p2).length : Int) = fl at *
          clear hlo
          go_wp2_with fail
          refine wp_region_held_drew (S := fun w' => Below wc.heap.size wc w') rfl (Below.refl _ wc).drew fun hS => ?_
          refine wpAnyH_take (i := 0) (v := .bool true) rfl (by kernel_rfl) (by kernel_rfl) (by kernel_rfl) (fun _ _ _ h => h) (Or.inl ⟨by kernel_rfl, fun w' _ => by kernel_rfl⟩) hS ?_
          refine wpAnyH_take (i := 1) (v := .bool false) rfl (by kernel_rfl) (by kernel_rfl) (by kernel_rfl) (fun _ _ _ h => h) (Or.inl ⟨by kernel_rfl, fun w' _ => by go_simp⟩) hS ?_
          refine wpAnyH_take (i := 2) (v := .bool false) rfl (by kernel_rfl) (by kernel_rfl) (by kernel_rfl) (fun _ _ _ h => h) (Or.inl ⟨by kernel_rfl, fun w' _ => by go_simp⟩) hS ?_
          refine wpAnyH_take (i := 3) (v := .pointer (some ⟨b, 0, none⟩)) rfl (by kernel_rfl) (by kernel_rfl) (by kernel_rfl) (fun _ _ _ h => h) (Or.inl ⟨by kernel_rfl, fun w' _ => by kernel_rfl⟩) hS ?_
          refine wpAnyH_take (i := 5) (v := .agg #[.slice A0 n c0, .slice A1 n c1, .slice A2 n c2]) rfl (by kernel_rfl) (by kernel_rfl) (by kernel_rfl) (fun _ _ _ h => h) (Or.inl ⟨by kernel_rfl, fun w' hS' => yields_row 43 _ rfl x rfl ((HP.out.go hS').k) Try.underlying43 rfl info43⟩) hS ?_
          refine wpAnyH_ready (rs := [4]) (by kernel_rfl) (by simp) ?_
          refine AllReadyH.cons rfl (fun K hK => ?_) AllReadyH.nil
          go_simp
          refine (HFR.out _ hS).mono ?_
          rintro e w1' ⟨rfl, hb1⟩
          refine hK.out _ _ (hS.trans (hb1.mono hS.size)) fun hS1 => ?_
          clear hK
          refine wpAnyH_ready (rs := [6]) (by kernel_rfl) (by simp) ?_
          refine AllReadyH.cons rfl (fun K hK => ?_) AllReadyH.nil
          go_simp
          refine (HFQ.out _ hS1).mono ?_
          rintro e w2' ⟨rfl, hb2⟩
          refine hK.out _ _ (hS1.trans (hb2.mono hS1.size)) fun hS2 => ?_
          clear hK
          refine wpAnyH_take (i := 7) (v := .bool false) rfl (by kernel_rfl) (by kernel_rfl) (by kernel_rfl) (fun _ _ _ h => h) (Or.inl ⟨by kernel_rfl, fun w' _ => by go_simp⟩) hS2 ?_
          refine wpAnyH_take (i := 8) (v := .bool false) rfl (by kernel_rfl) (by kernel_rfl) (by kernel_rfl) (fun _ _ _ h => h) (Or.inl ⟨by kernel_rfl, fun w' _ => by go_simp⟩) hS2 ?_
          refine wpAnyH_take (i := 9) (v := .bool false) rfl (by kernel_rfl) (by kernel_rfl) (by kernel_rfl) (fun _ _ _ h => h) (Or.inl ⟨by kernel_rfl, fun w' _ => by go_simp⟩) hS2 ?_
          refine wpAnyH_take (i := 10) (v := .pointer (some ⟨b, 0, none⟩)) rfl (by kernel_rfl) (by kernel_rfl) (by kernel_rfl) (fun _ _ _ h => h) (Or.inl ⟨by kernel_rfl, fun w' _ => by kernel_rfl⟩) hS2 ?_
          refine wpAnyH_take (i := 12) (v := .pointer (some ⟨x, 0, none⟩)) rfl (by kernel_rfl) (by kernel_rfl) (by kernel_rfl) (fun _ _ _ h => h) (Or.inl ⟨by kernel_rfl, fun w' _ => by kernel_rfl⟩) hS2 ?_
          refine wpAnyH_take (i := 13) (v := .slice A0 n c0) rfl (by kernel_rfl) (by kernel_rfl) (by kernel_rfl) (fun _ _ _ h => h) (Or.inl ⟨by kernel_rfl, fun w' hS' => by have q := q0 w' hS'; go_simp⟩) hS2 ?_
          refine wpAnyH_take (i := 14) (v := .int .i64 (n : Int)) rfl (by kernel_rfl) (by kernel_rfl) (by kernel_rfl) (fun _ _ _ h => h) (Or.inl ⟨by kernel_rfl, fun w' _ => by kernel_rfl⟩) hS2 ?_
          refine wpAnyH_ready (rs := [11]) (by kernel_rfl) (by simp) ?_
          refine AllReadyH.cons rfl (fun K hK => ?_) AllReadyH.nil
          go_simp
          refine (HLE.out _ hS2).mono ?_
          rintro e w3' ⟨rfl, rfl⟩
          refine hK.out _ _ hS2 fun hS3 => ?_
          clear hK
          refine wpAnyH_take (i := 15) (v := .bool false) rfl (by kernel_rfl) (by kernel_rfl) (by kernel_rfl) (fun _ _ _ h => h) (Or.inl ⟨by kernel_rfl, fun w' _ => by go_simp⟩) hS3 ?_
          refine wpAnyH_take (i := 16) (v := .bool false) rfl (by kernel_rfl) (by kernel_rfl) (by kernel_rfl) (fun _ _ _ h => h) (Or.inl ⟨by kernel_rfl, fun w' _ => by go_simp⟩) hS3 ?_
          refine wpAnyH_take (i := 17) (v := .bool false) rfl (by kernel_rfl) (by kernel_rfl) (by kernel_rfl) (fun _ _ _ h => h) (Or.inl ⟨by kernel_rfl, fun w' _ => by go_simp⟩) hS3 ?_
          refine wpAnyH_take (i := 18) (v := .pointer (some ⟨b, 0, none⟩)) rfl (by kernel_rfl) (by kernel_rfl) (by kernel_rfl) (fun _ _ _ h => h) (Or.inl ⟨by kernel_rfl, fun w' _ => by kernel_rfl⟩) hS3 ?_
          refine wpAnyH_take (i := 19) (v := .pointer (some ⟨z, 2, none⟩)) rfl (by kernel_rfl) (by kernel_rfl) (by kernel_rfl) (fun _ _ _ h => h) (Or.inl ⟨by kernel_rfl, fun w' _ => by kernel_rfl⟩) hS3 ?_
          refine wpAnyH_take (i := 20) (v := .int .i64 (O k)) rfl (by kernel_rfl) (by kernel_rfl) (by kernel_rfl) (fun _ _ _ h => h) (Or.inl ⟨by kernel_rfl, fun w' hS' => by have q := qO w' hS'; go_simp⟩) hS3 ?_
          refine wpAnyH_take (i := 22) (v := .agg #[.slice A0 n c0, .slice A1 n c1, .slice A2 n c2]) rfl (by kernel_rfl) (by kernel_rfl) (by kernel_rfl) (fun _ _ _ h => h) (Or.inl ⟨by kernel_rfl, fun w' hS' => yields_row 43 _ rfl x rfl ((HP.out.go hS').k) Try.underlying43 rfl info43⟩) hS3 ?_
          refine wpAnyH_take (i := 23) (v := .pointer (some ⟨z, 2, none⟩)) rfl (by kernel_rfl) (by kernel_rfl) (by kernel_rfl) (fun _ _ _ h => h) (Or.inl ⟨by kernel_rfl, fun w' _ => by kernel_rfl⟩) hS3 ?_
          refine wpAnyH_take (i := 24) (v := .int .i64 (O k)) rfl (by kernel_rfl) (by kernel_rfl) (by kernel_rfl) (fun _ _ _ h => h) (Or.inl ⟨by kernel_rfl, fun w' hS' => by have q := qO w' hS'; go_simp⟩) hS3 ?_
          refine wpAnyH_ready (rs := [21]) (by kernel_rfl) (by simp) ?_
          refine AllReadyH.cons rfl (fun K hK => ?_) AllReadyH.nil
          go_simp
          refine (ctx_ofI (HP.out.go hS3).c (O k)).mono ?_
          rintro e w5' ⟨v1, rfl, hi1, hb5⟩
          refine hK.out _ _ (hS3.trans (hb5.mono hS3.size)) fun hS5 => ?_
          clear hK
          refine wpAnyH_ready (rs := [25]) (by kernel_rfl) (by simp) ?_
          refine AllReadyH.cons rfl (fun K hK => ?_) AllReadyH.nil
          go_simp
          refine (refof_any (HP.out.go hS5).r hp64 (O k)).mono ?_
          rintro e w6' ⟨v2, rfl, hi2, hb6⟩
          refine hK.out _ _ (hS5.trans (hb6.mono hS5.size)) fun hS6 => ?_
          clear hK
          refine wpAnyH_ready (rs := [26]) (by kernel_rfl) (by simp) ?_
          refine AllReadyH.cons rfl (fun K hK => ?_) AllReadyH.nil
          go_simp
          refine (same_yes (hi1.below hb6) hi2 HLO.out).mono ?_
          rintro e w7' ⟨rfl, nd, rfl⟩
          refine hK.out _ _ (hS6.trans (below_drewN' _ nd |>.mono hS6.size)) fun hS7 => ?_
          clear hK
          refine wpAnyH_take (i := 27) (v := .bool false) rfl (by kernel_rfl) (by kernel_rfl) (by kernel_rfl) (fun _ _ _ h => h) (Or.inl ⟨by kernel_rfl, fun w' _ => by go_simp⟩) hS7 ?_
          refine wpAnyH_take (i := 28) (v := .bool false) rfl (by kernel_rfl) (by kernel_rfl) (by kernel_rfl) (fun _ _ _ h => h) (Or.inl ⟨by kernel_rfl, fun w' _ => by go_simp⟩) hS7 ?_
          refine wpAnyH_done (by kernel_rfl) ?_ _
          go_simp
          go_wp2
          go_meet
          exact ⟨rfl, HP.out.go hS7⟩
        case rest =>
          obtain ⟨rfl, hP3⟩ := hcut
          have HP3 := Lib.hid hP3
          clear hP3 HP HZ
          go_wp2_with fail
          go_loopw [19] (fun i wx => ∃ j : Nat, j ≤ n ∧ i = .int .i64 j ∧ PP w wx b x X2 (.slice A0 n c0) (.slice A1 n c1) (.slice A2 n c2) p2 p2) (fun i _ => n - (intOf i).toNat)
          case atStart => exact ⟨0, Nat.zero_le _, rfl, HP3.out⟩
          case round =>
            clear HP3
            obtain ⟨j, hj, rfl, hP4⟩ := hrel
            have HP4 := Lib.hid hP4
            clear hP4
            have k0 : wr.cell? ⟨x, 0, none⟩ = some (.slice A0 n c0) := (HP4.out.k.cell 0).trans rfl
            by_cases hjn : j < n
            · have b1 : (j : Int) < (n : Int) := by omega
              have b0 : (0 : Int) ≤ (j : Int) := by omega
              have hj2 : j < p2.n := by rw [HN2.out]; exact hjn
              obtain ⟨g0, y0, e0, -, l0, -, h0, -⟩ := own_pos HP4.out.r.o.r0 (by omega)
              obtain ⟨g1, y1, e1, -, l1, -, h1, -⟩ := own_pos HP4.out.r.o.r1 (by omega)
              obtain ⟨g2, y2, e2, -, l2, -, h2, -⟩ := own_pos HP4.out.r.o.r2 (by omega)
              injection e0 with e0 q1 q2
              clear q1 q2
              injection e1 with e1 q1 q2
              clear q1 q2
              injection e2 with e2 q1 q2
              clear q1 q2
              subst e0 e1 e2
              have r0 : wr.cell? ⟨g0, j, none⟩ = some (.bool (p2.tk j)) := (h0 j (by omega)).trans (by simp [tks, hj2])
              have r1 : wr.cell? ⟨g1, j, none⟩ = some (.int .i64 (p2.ow j)) := (h1 j (by omega)).trans (by simp [ows, hj2])
              have r2 : wr.cell? ⟨g2, j, none⟩ = some (.int .i64 (p2.tu j)) := (h2 j (by omega)).trans (by simp [tus, hj2])
              have HRR := Lib.hid (And.intro r0 (And.intro r1 r2))
              clear h0 h1 h2 r0 r1 r2
              go_wp2_with fail
              refine (ctx_owner HP4.out.c j hj2).mono ?_
              rintro e w8 ⟨rfl, nr, rfl⟩
              have HP5 := Lib.hid (HP4.out.go (below_drewN' _ nr))
              have r0 : (wr.drewN nr).cell? ⟨g0, j, none⟩ = some (.bool (p2.tk j)) := HRR.out.1
              have r1 : (wr.drewN nr).cell? ⟨g1, j, none⟩ = some (.int .i64 (p2.ow j)) := HRR.out.2.1
              have r2 : (wr.drewN nr).cell? ⟨g2, j, none⟩ = some (.int .i64 (p2.tu j)) := HRR.out.2.2
              clear k0 HRR HP4
              generalize wr.drewN nr = wq at *
              go_upto_region 31 with (fail)
              go_cut [173] from 134 to 173 (fun v wx => v = .bool false ∧ PP w wx b x X2 (.slice (some ⟨g0, 0, none⟩) n c0) (.slice (some ⟨g1, 0, none⟩) n c1) (.slice (some ⟨g2, 0, none⟩) n c2) p2 p2)
              case first =>
                have a0 : ∀ w', Below wq.heap.size wq w' → w'.cell? ⟨g0, j, none⟩ = some (.bool (p2.tk j)) := fun w' h => (h.cell (p := ⟨g0, j, none⟩) (World.block_lt_of_cell? _ _ r0)).trans r0
                have a1 : ∀ w', Below wq.heap.size wq w' → w'.cell? ⟨g1, j, none⟩ = some (.int .i64 (p2.ow j)) := fun w' h => (h.cell (p := ⟨g1, j, none⟩) (World.block_lt_of_cell? _ _ r1)).trans r1
                have a2 : ∀ w', Below wq.heap.size wq w' → w'.cell? ⟨g2, j, none⟩ = some (.int .i64 (p2.tu j)) := fun w' h => (h.cell (p := ⟨g2, j, none⟩) (World.block_lt_of_cell? _ _ r2)).trans r2
                have q0 : ∀ w', Below wq.heap.size wq w' → w'.cell? ⟨x, 0, none⟩ = some (.slice (some ⟨g0, 0, none⟩) n c0) := fun w' h => ((HP5.out.go h).k.cell 0).trans rfl
                have q1 : ∀ w', Below wq.heap.size wq w' → w'.cell? ⟨x, 1, none⟩ = some (.slice (some ⟨g1, 0, none⟩) n c1) := fun w' h => ((HP5.out.go h).k.cell 1).trans rfl
                have q2 : ∀ w', Below wq.heap.size wq w' → w'.cell? ⟨x, 2, none⟩ = some (.slice (some ⟨g2, 0, none⟩) n c2) := fun w' h => ((HP5.out.go h).k.cell 2).trans rfl
                have HTU := Lib.hid (show ∀ w', Below wq.heap.size wq w' → Calls Try.prog 13 #[.pointer (some ⟨b, 0, none⟩), .int .i64 (j : Int)] w' fun e w'' => e = .returned (.int .i64 (p2.tu j)) ∧ w' = w'' from fun w' h => turn_in b p2 j w' (HP5.out.go h).c.at_ hj2)
                generalize p2.tk j = tj at *
                generalize p2.ow j = oj at *
                generalize p2.tu j = uj at *
                go_wp2_with fail
                refine wp_region_held_drew (S := fun w' => Below wq.heap.size wq w') rfl (Below.refl _ wq).drew fun hS => ?_
                refine wpAnyH_take (i := 0) (v := .int .i64 oj) rfl (by kernel_rfl) (by kernel_rfl) (by kernel_rfl) (fun _ _ _ h => h) (Or.inl ⟨by kernel_rfl, fun w' _ => by kernel_rfl⟩) hS ?_
                refine wpAnyH_take (i := 1) (v := .pointer (some ⟨x, 1, none⟩)) rfl (by kernel_rfl) (by kernel_rfl) (by kernel_rfl) (fun _ _ _ h => h) (Or.inl ⟨by kernel_rfl, fun w' _ => by kernel_rfl⟩) hS ?_
                refine wpAnyH_take (i := 2) (v := .slice (some ⟨g1, 0, none⟩) n c1) rfl (by kernel_rfl) (by kernel_rfl) (by kernel_rfl) (fun _ _ _ h => h) (Or.inl ⟨by kernel_rfl, fun w' hS' => by have q := q1 w' hS'; go_simp⟩) hS ?_
                refine wpAnyH_take (i := 3) (v := .int .i64 (j : Int)) rfl (by kernel_rfl) (by kernel_rfl) (by kernel_rfl) (fun _ _ _ h => h) (Or.inl ⟨by kernel_rfl, fun w' _ => by kernel_rfl⟩) hS ?_
                refine wpAnyH_take (i := 4) (v := .pointer (some ⟨g1, j, none⟩)) rfl (by kernel_rfl) (by kernel_rfl) (by kernel_rfl) (fun _ _ _ h => h) (Or.inl ⟨by kernel_rfl, fun w' _ => by go_simp⟩) hS ?_
                refine wpAnyH_take (i := 5) (v := .int .i64 oj) rfl (by kernel_rfl) (by kernel_rfl) (by kernel_rfl) (fun _ _ _ h => h) (Or.inl ⟨by kernel_rfl, fun w' hS' => by have q := a1 w' hS'; go_simp⟩) hS ?_
                refine wpAnyH_take (i := 6) (v := .bool false) rfl (by kernel_rfl) (by kernel_rfl) (by kernel_rfl) (fun _ _ _ h => h) (Or.inl ⟨by kernel_rfl, fun w' _ => by go_simp⟩) hS ?_
                refine wpAnyH_take (i := 7) (v := .bool false) rfl (by kernel_rfl) (by kernel_rfl) (by kernel_rfl) (fun _ _ _ h => h) (Or.inl ⟨by kernel_rfl, fun w' _ => by go_simp⟩) hS ?_
                refine wpAnyH_take (i := 8) (v := .bool tj) rfl (by kernel_rfl) (by kernel_rfl) (by kernel_rfl) (fun _ _ _ h => h) (Or.inl ⟨by kernel_rfl, fun w' _ => by kernel_rfl⟩) hS ?_
                refine wpAnyH_take (i := 9) (v := .pointer (some ⟨x, 0, none⟩)) rfl (by kernel_rfl) (by kernel_rfl) (by kernel_rfl) (fun _ _ _ h => h) (Or.inl ⟨by kernel_rfl, fun w' _ => by kernel_rfl⟩) hS ?_
                refine wpAnyH_take (i := 10) (v := .slice (some ⟨g0, 0, none⟩) n c0) rfl (by kernel_rfl) (by kernel_rfl) (by kernel_rfl) (fun _ _ _ h => h) (Or.inl ⟨by kernel_rfl, fun w' hS' => by have q := q0 w' hS'; go_simp⟩) hS ?_
                refine wpAnyH_take (i := 11) (v := .int .i64 (j : Int)) rfl (by kernel_rfl) (by kernel_rfl) (by kernel_rfl) (fun _ _ _ h => h) (Or.inl ⟨by kernel_rfl, fun w' _ => by kernel_rfl⟩) hS ?_
                refine wpAnyH_take (i := 12) (v := .pointer (some ⟨g0, j, none⟩)) rfl (by kernel_rfl) (by kernel_rfl) (by kernel_rfl) (fun _ _ _ h => h) (Or.inl ⟨by kernel_rfl, fun w' _ => by go_simp⟩) hS ?_
                refine wpAnyH_take (i := 13) (v := .bool tj) rfl (by kernel_rfl) (by kernel_rfl) (by kernel_rfl) (fun _ _ _ h => h) (Or.inl ⟨by kernel_rfl, fun w' hS' => by have q := a0 w' hS'; go_simp⟩) hS ?_
                refine wpAnyH_take (i := 14) (v := .bool false) rfl (by kernel_rfl) (by kernel_rfl) (by kernel_rfl) (fun _ _ _ h => h) (Or.inl ⟨by kernel_rfl, fun w' _ => by cases tj <;> go_simp⟩) hS ?_
                refine wpAnyH_take (i := 15) (v := .bool false) rfl (by kernel_rfl) (by kernel_rfl) (by kernel_rfl) (fun _ _ _ h => h) (Or.inl ⟨by kernel_rfl, fun w' _ => by go_simp⟩) hS ?_
                refine wpAnyH_take (i := 16) (v := .bool false) rfl (by kernel_rfl) (by kernel_rfl) (by kernel_rfl) (fun _ _ _ h => h) (Or.inl ⟨by kernel_rfl, fun w' _ => by go_simp⟩) hS ?_
                refine wpAnyH_take (i := 17) (v := .pointer (some ⟨b, 0, none⟩)) rfl (by kernel_rfl) (by kernel_rfl) (by kernel_rfl) (fun _ _ _ h => h) (Or.inl ⟨by kernel_rfl, fun w' _ => by kernel_rfl⟩) hS ?_
                refine wpAnyH_take (i := 18) (v := .int .i64 (j : Int)) rfl (by kernel_rfl) (by kernel_rfl) (by kernel_rfl) (fun _ _ _ h => h) (Or.inl ⟨by kernel_rfl, fun w' _ => by kernel_rfl⟩) hS ?_
                refine wpAnyH_take (i := 20) (v := .pointer (some ⟨x, 2, none⟩)) rfl (by kernel_rfl) (by kernel_rfl) (by kernel_rfl) (fun _ _ _ h => h) (Or.inl ⟨by kernel_rfl, fun w' _ => by kernel_rfl⟩) hS ?_
                refine wpAnyH_take (i := 21) (v := .slice (some ⟨g2, 0, none⟩) n c2) rfl (by kernel_rfl) (by kernel_rfl) (by kernel_rfl) (fun _ _ _ h => h) (Or.inl ⟨by kernel_rfl, fun w' hS' => by have q := q2 w' hS'; go_simp⟩) hS ?_
                refine wpAnyH_take (i := 22) (v := .int .i64 (j : Int)) rfl (by kernel_rfl) (by kernel_rfl) (by kernel_rfl) (fun _ _ _ h => h) (Or.inl ⟨by kernel_rfl, fun w' _ => by kernel_rfl⟩) hS ?_
                refine wpAnyH_take (i := 23) (v := .pointer (some ⟨g2, j, none⟩)) rfl (by kernel_rfl) (by kernel_rfl) (by kernel_rfl) (fun _ _ _ h => h) (Or.inl ⟨by kernel_rfl, fun w' _ => by go_simp⟩) hS ?_
                refine wpAnyH_take (i := 24) (v := .int .i64 uj) rfl (by kernel_rfl) (by kernel_rfl) (by kernel_rfl) (fun _ _ _ h => h) (Or.inl ⟨by kernel_rfl, fun w' hS' => by have q := a2 w' hS'; go_simp⟩) hS ?_
                refine wpAnyH_ready (rs := [19]) (by kernel_rfl) (by simp) ?_
                refine AllReadyH.cons rfl (fun K hK => ?_) AllReadyH.nil
                go_simp
                refine (HTU.out _ hS).mono ?_
                rintro e w9 ⟨rfl, rfl⟩
                refine hK.out _ _ hS fun hS1 => ?_
                clear hK
                refine wpAnyH_take (i := 25) (v := .bool false) rfl (by kernel_rfl) (by kernel_rfl) (by kernel_rfl) (fun _ _ _ h => h) (Or.inl ⟨by kernel_rfl, fun w' _ => by go_simp⟩) hS1 ?_
                refine wpAnyH_take (i := 26) (v := .bool false) rfl (by kernel_rfl) (by kernel_rfl) (by kernel_rfl) (fun _ _ _ h => h) (Or.inl ⟨by kernel_rfl, fun w' _ => by go_simp⟩) hS1 ?_
                refine wpAnyH_done (by kernel_rfl) ?_ _
                go_simp
                go_wp2
                go_meet
                exact ⟨rfl, HP5.out.go hS1⟩
              case rest =>
                obtain ⟨rfl, hP6⟩ := hcut
                have HP6 := Lib.hid hP6
                clear hP6 HP5
                go_wp2_with fail
                go_roundw
                case rel => exact ⟨j + 1, by omega, by go_num, HP6.out⟩
                case measure => simp [intOf]; omega
            · obtain rfl : j = n := by omega
              have b1 : ¬ (j : Int) < (j : Int) := by omega
              go_wp2
              go_roundw
              case rel => exact ⟨k + 1, X2, A0, c0, A1, c1, A2, c2, p2, by omega, by go_num, HP4.out, HT2.out, HN2.out, HI2.out⟩
              case measure => simp [intOf]; omega
    · obtain rfl : k = L := by omega
      have b1' : ¬ (k : Int) < (k : Int) := by omega
      have HB := Lib.hid HP.out.c.bel
      clear HP
      go_wp2
      go_ret
      exact ⟨rfl, HB.out⟩
end Go.Proofs.Ytjmhdkcnllnekaa
