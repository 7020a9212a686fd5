/- CellApart: an access of one cell changes no other one. -/
import Derived.Test.YtkamcjejongmbaaDoorCellLast
namespace Go.Proofs.YtkamcjejongmbaaDoor
open Go.RowKit

theorem ints_any {w : World} {v : Value} {l : List Int} {n : Nat} (h : IntsIn w v l) (hl : l.length = n) :
    ∃ A c, v = .slice A n c ∧ (0 < n → ∃ g o, A = some ⟨g, o, none⟩ ∧ ∀ i, i < n → w.cell? ⟨g, o + i, none⟩ = some (.int .i64 (l.getD i 0))) := by
  obtain ⟨A, c, rfl, hc, k⟩ := h
  subst hl
  refine ⟨A, c, rfl, fun hp => ?_⟩
  obtain ⟨g, o, rfl, d⟩ := k hp
  exact ⟨g, o, rfl, fun i hi => by rw [d i hi, List.getD_eq_getElem?_getD, List.getElem?_eq_getElem hi]; rfl⟩
theorem ownsRow_onlS {S : Nat → Prop} {w w' : World} {base : Nat} {e : TypeId} {size n : Nat} {v : Value} {xs : List Value} (h : w.ownsRow base e size v n xs) (hO : Only S w w') (hs : ∀ k, S k → k < base) : w'.ownsRow base e size v n xs := by
  obtain ⟨h1, h2⟩ := h
  refine ⟨h1, ?_⟩
  rcases h2 with hn | ⟨g, cap, cur, rfl, hb, hg, rest⟩
  · exact .inl hn
  · exact .inr ⟨g, cap, cur, rfl, hb, (hO.block g (Array.getElem?_eq_some_iff.1 hg).1 (fun h => by have := hs g h; omega)).trans hg, rest⟩
theorem swap_bad_eq {s : CS} {i v : Int} (h : s.why i v ≠ 0) : s.swap i v = (s, 0, s.why i v) := by unfold CS.swap; rw [if_neg h]
theorem set_val (l : List Int) (j i : Nat) (v : Int) (hi : i < l.length) : (l.set j v).getD i 0 = if j = i then v else l.getD i 0 := by
  rw [List.getD_eq_getElem?_getD, List.getD_eq_getElem?_getD, List.getElem?_set]
  by_cases e : j = i
  · subst e; rw [if_pos rfl, if_pos rfl, if_pos hi]; rfl
  · rw [if_neg e, if_neg e]
set_option maxRecDepth 100000 in
set_option maxHeartbeats 16000000 in
theorem law_cellApart (c : Int) (A : Option Addr) (len cap : Nat) (l : List St) (kd I V : Int) {w : World} (hE : ErrT w) (hs : StsIn w (.slice A len cap) l) :
    Calls Tryd.prog 4 #[.int .i64 c, .slice A len cap, .agg #[.int .i64 kd, .int .i64 I, .int .i64 V]] w fun r w' => r = .returned (.bool true) ∧ Below w.heap.size w w' := by
  obtain ⟨w0, hw0⟩ : ∃ w0, w0 = w.alloc (.cells #[.int .i64 kd, .int .i64 I, .int .i64 V] 28) := ⟨_, rfl⟩
  have hbw : Below w.heap.size w w0 := by rw [hw0]; exact below_alloc (Nat.le_refl _) _
  have hbox : Blk w0 w.heap.size 28 #[.int .i64 kd, .int .i64 I, .int .i64 V] := by rw [hw0]; exact Blk.new _ _ _
  have hE0 : ErrT w0 := (hbw.cell (p := ⟨0, 0, none⟩) (World.block_lt_of_cell? _ _ hE)).trans hE
  have HL := Lib.hid (lives_any hE0 (Below.refl _ w0))
  obtain ⟨n, hn, hz⟩ := mod_nat c 41 (by omega)
  have HN := Lib.hid (show ∀ w1, Below w0.heap.size w0 w1 → Calls Tryd.prog 14 #[.int .i64 (wrap64 ((IntKind.u64.wrap c).tmod 41))] w1 fun r w' => r = .returned (.pointer (some ⟨w1.heap.size + 1, 0, none⟩)) ∧ CCtx w0 w' (w1.heap.size + 1) w1.heap.size ⟨List.replicate n 0, 0⟩ ∧ Below w1.heap.size w1 w' from
    fun w1 h1 => by rw [show wrap64 ((IntKind.u64.wrap c).tmod 41) = (n : Int) from hz]; exact cctx_new hE0 h1 n (by omega))
  obtain rfl : len = l.length := by
    obtain ⟨_, _, e, _⟩ := hs
    injection e
  have HS := Lib.hid (hs.below hbw)
  have HBW := Lib.hid hbw
  have HB0 := Lib.hid (show w.heap.size ≤ w0.heap.size from hbw.size)
  have HBOX := Lib.hid hbox
  have HW0 := Lib.hid hw0
  clear hE hs hz hE0 hbw hbox hw0
  go_enter Tryd.func4, Tryd.ntmps4
  go_wp2_with fail
  rw [← HW0.out]
  refine HL.out.mono ?_
  rintro r w1 ⟨rfl, hb⟩
  have HB := Lib.hid hb
  clear hb HL HW0
  obtain ⟨b0, hb0⟩ : ∃ b0, w.heap.size = b0 := ⟨_, rfl⟩
  have HB1 := Lib.hid (show Below b0 w w0 from hb0 ▸ HBW.out)
  have HBOX1 := Lib.hid (show Blk w0 b0 28 #[.int .i64 kd, .int .i64 I, .int .i64 V] from hb0 ▸ HBOX.out)
  rw [hb0]
  have HE0 := Lib.hid hb0
  clear HBOX HBW hb0
  have HBOX := HBOX1
  clear HBOX1
  go_wp2_with fail
  refine (HN.out w1 HB.out).mono ?_
  rintro r w2 ⟨rfl, hC, -⟩
  generalize w1.heap.size + 1 = ma at *
  generalize w1.heap.size = la at *
  have HC2 := Lib.hid hC
  clear HN hC HB
  go_wp2
  go_loopw [8] (fun i wr => ∃ k : Nat, k ≤ l.length ∧ k ≤ 40 ∧ i = .int .i64 k ∧ ∃ s : CS, CCtx w0 wr ma la s ∧ s.l.length = n ∧ s.c ≤ k) (fun i _ => l.length - (intOf i).toNat)
  case atStart => exact ⟨0, Nat.zero_le _, by omega, rfl, _, HC2.out, by simp, Nat.le_refl _⟩
  case round =>
    obtain ⟨k, hk, hk60, rfl, s, hC, hsl, hsc⟩ := hrel
    clear HC2
    have hcc : s.c < 4611686018427387904 := by omega
    have HC := Lib.hid hC
    by_cases hlt : k < l.length
    · by_cases hlt6 : k < 40
      · have hS := HS.out.below hC.bel
        obtain ⟨_, _, e, hl2, hc⟩ := hS
        injection e with e1 _ e3
        subst e1 e3
        obtain ⟨g, o, rfl, hcell⟩ := hc (by omega)
        obtain ⟨hst, -⟩ := hcell k hlt
        obtain ⟨-, s1, s2⟩ := hst
        have b0 : (0 : Int) ≤ (k : Int) := by omega
        have b1 : (k : Int) < (l.length : Int) := by omega
        have b2 : (k : Int) < 40 := by omega
        generalize l[k].i = i at *
        generalize l[k].v = v at *
        clear hcell hc hC
        go_wp2_with fail
        go_still_tail 11, (by kernel_rfl)
        change wpList _ _ _ _ _ wr.drew
        have HCD := Lib.hid HC.out.drew
        clear HC
        generalize wr.drew = wd at *
        go_wp2_with fail
        refine (cctx_write HCD.out hcc i v).mono ?_
        rintro r w5 ⟨rfl, hC, -⟩
        have HC5 := Lib.hid hC
        clear hC HCD
        go_wp2
        go_roundw
        case rel => exact ⟨k + 1, by omega, by omega, by go_num, _, HC5.out, by rw [swap_len]; exact hsl, by have := swap_c s i v; omega⟩
        case measure => simp [intOf]; omega
      · have b1 : (k : Int) < (l.length : Int) := by omega
        have b2 : ¬ (k : Int) < 40 := by omega
        clear hC hlt hlt6 hk hk60
        go_wp2_with fail
        refine (cctx_all HC.out).mono ?_
        rintro r w4 ⟨v1, rfl, hO, hC, hb4⟩
        have HO1 := Lib.hid hO
        have HFAR := Lib.hid (show ∀ k, memS ma la k → k < wr.heap.size from by have h1 := HC.out.at_.m.lt; have h2 := HC.out.at_.d.lt; rintro k (rfl | rfl) <;> assumption)
        clear HC hO hb4
        have HC := Lib.hid hC
        clear hC
        go_wp2_with fail
        refine (cctx_count HC.out).mono ?_
        rintro r w4 ⟨rfl, rfl⟩
        have q1 : w4.cell? ⟨b0, 1, none⟩ = some (.int .i64 I) := (HC.out.bel.cell (p := ⟨b0, 1, none⟩) HBOX.out.lt).trans ((HBOX.out.cell 1).trans rfl)
        have q2 : w4.cell? ⟨b0, 2, none⟩ = some (.int .i64 V) := (HC.out.bel.cell (p := ⟨b0, 2, none⟩) HBOX.out.lt).trans ((HBOX.out.cell 2).trans rfl)
        go_wp2_with fail
        clear q1 q2
        have wc : wrap64 ((s.c : Int) + 1) = (s.c : Int) + 1 := by unfold wrap64; omega
        have wn : ((s.c : Int) == (s.c : Int) + 1) = false := beq_eq_false_iff_ne.2 (by omega)
        rcases why_cases s.l.length I V with ⟨hw, h0, h1, h2, h3⟩ | ⟨hw, h1⟩ | ⟨hw, h0, h1, h2⟩
        · obtain ⟨j, rfl⟩ := Int.eq_ofNat_of_zero_le h0
          have hj : j < s.l.length := by omega
          refine (cctx_write HC.out hcc (j : Int) V).mono ?_
          rw [swap_in hj h2 h3]
          rintro r w5 ⟨rfl, hC, hO5⟩
          have HC5 := Lib.hid hC
          have HO5 := Lib.hid (ownsRow_onlS HO1.out hO5 HFAR.out)
          clear hC hO5 HO1 HC hw HFAR
          go_wp2_with fail
          refine (cctx_all HC5.out).mono ?_
          rintro r w6 ⟨v2, rfl, hO, hC, hb⟩
          obtain ⟨A1, c1, rfl, d1⟩ := ints_any (IntsIn.of_own (ownsRow_below HO5.out hb (Nat.le_refl _)) rfl) hsl
          obtain ⟨A2, c2, rfl, d2⟩ := ints_any (IntsIn.of_own hO rfl) (show (s.l.set j V).length = n by rw [List.length_set]; exact hsl)
          have D1 := Lib.hid d1
          have D2 := Lib.hid d2
          have HC6 := Lib.hid hC
          have q1 : w6.cell? ⟨b0, 1, none⟩ = some (.int .i64 (j : Int)) := (HC6.out.bel.cell (p := ⟨b0, 1, none⟩) HBOX.out.lt).trans ((HBOX.out.cell 1).trans rfl)
          have q2 : w6.cell? ⟨b0, 2, none⟩ = some (.int .i64 V) := (HC6.out.bel.cell (p := ⟨b0, 2, none⟩) HBOX.out.lt).trans ((HBOX.out.cell 2).trans rfl)
          clear hO hC hb HC5 HO5 d1 d2
          have t1 : (j : Int) < (n : Int) := by omega
          clear h0 h1 hj
          go_wp2_with (go_at_call 17; refine (cctx_count HC6.out).mono ?_; rintro r w8 ⟨rfl, rfl⟩)
          go_loopw [14] (fun i wr => ∃ k : Nat, k ≤ n ∧ i = .int .i64 k ∧ ∃ q, wr = w6.drewN q) (fun i _ => n - (intOf i).toNat)
          case atStart => exact ⟨0, Nat.zero_le _, rfl, 0, rfl⟩
          case round =>
            obtain ⟨i, hi, rfl, q, rfl⟩ := hrel
            by_cases hlt : i < n
            · obtain ⟨g1, o1, rfl, d1⟩ := D1.out (by omega)
              obtain ⟨g2, o2, rfl, d2⟩ := D2.out (by omega)
              have e1 := d1 i hlt
              have e2 := d2 i hlt
              have i0 : (0 : Int) ≤ (i : Int) := by omega
              have i1 : (i : Int) < (n : Int) := by omega
              have e3 := d2 j (by omega)
              rw [set_val _ _ _ _ (by omega), if_pos rfl] at e3
              rw [set_val _ _ _ _ (by omega)] at e2
              clear d1 d2
              by_cases hij : j = i
              · subst hij
                rw [if_pos rfl] at e2
                clear e3
                generalize s.l.getD j 0 = y at *
                by_cases hy : V = y
                · subst hy
                  go_wp2
                  go_quiet (fail)
                  go_wp2
                  go_roundw
                  case rel => exact ⟨j + 1, by omega, by go_num, _, rfl⟩
                  case measure => simp [intOf]; omega
                · have hyb : (V == y) = false := by simp [hy]
                  have hyn : (V != y) = true := by simp [hy]
                  have hyd : decide (V = y) = false := by simp [hy]
                  go_wp2
                  go_quiet (fail)
                  go_wp2
                  go_roundw
                  case rel => exact ⟨j + 1, by omega, by go_num, _, rfl⟩
                  case measure => simp [intOf]; omega
              · rw [if_neg hij] at e2
                generalize s.l.getD i 0 = y at *
                go_wp2
                go_quiet (fail)
                go_wp2
                go_roundw
                case rel => exact ⟨i + 1, by omega, by go_num, _, rfl⟩
                case measure => simp [intOf]; omega
            · obtain rfl : i = n := by omega
              have i1 : ¬ (i : Int) < (i : Int) := by omega
              go_wp2_with (go_at_call 17; refine (cctx_count (HC6.out.drewN _)).mono ?_; rintro r w8 ⟨rfl, rfl⟩)
              go_ret
              exact ⟨rfl, by rw [HE0.out]; exact HB1.out.trans ((HC6.out.drewN _).bel.mono (HE0.out ▸ HB0.out))⟩
        · refine (cctx_write HC.out hcc I V).mono ?_
          rw [swap_bad_eq (by unfold CS.why; rw [hw]; decide), show s.why I V = 7 from hw]
          rintro r w5 ⟨rfl, hC, hO5⟩
          have HC5 := Lib.hid hC
          have HO5 := Lib.hid (ownsRow_onlS HO1.out hO5 HFAR.out)
          clear hC hO5 HO1 HC hw HFAR
          go_wp2_with fail
          refine (cctx_all HC5.out).mono ?_
          rintro r w6 ⟨v2, rfl, hO, hC, hb⟩
          obtain ⟨A1, c1, rfl, d1⟩ := ints_any (IntsIn.of_own (ownsRow_below HO5.out hb (Nat.le_refl _)) rfl) hsl
          obtain ⟨A2, c2, rfl, d2⟩ := ints_any (IntsIn.of_own hO rfl) hsl
          have D1 := Lib.hid d1
          have D2 := Lib.hid d2
          have HC6 := Lib.hid hC
          have q1 : w6.cell? ⟨b0, 1, none⟩ = some (.int .i64 I) := (HC6.out.bel.cell (p := ⟨b0, 1, none⟩) HBOX.out.lt).trans ((HBOX.out.cell 1).trans rfl)
          have q2 : w6.cell? ⟨b0, 2, none⟩ = some (.int .i64 V) := (HC6.out.bel.cell (p := ⟨b0, 2, none⟩) HBOX.out.lt).trans ((HBOX.out.cell 2).trans rfl)
          clear hO hC hb HC5 HO5 d1 d2
          by_cases hh : I < 0
          · have t1 : ¬ (0 : Int) ≤ I := by omega
            clear h1
            clear hh
            go_wp2_with (go_at_call 17; refine (cctx_count HC6.out).mono ?_; rintro r w8 ⟨rfl, rfl⟩)
            go_loopw [14] (fun i wr => ∃ k : Nat, k ≤ n ∧ i = .int .i64 k ∧ ∃ q, wr = w6.drewN q) (fun i _ => n - (intOf i).toNat)
            case atStart => exact ⟨0, Nat.zero_le _, rfl, 0, rfl⟩
            case round =>
              obtain ⟨i, hi, rfl, q, rfl⟩ := hrel
              by_cases hlt : i < n
              · obtain ⟨g1, o1, rfl, d1⟩ := D1.out (by omega)
                obtain ⟨g2, o2, rfl, d2⟩ := D2.out (by omega)
                have e1 := d1 i hlt
                have e2 := d2 i hlt
                have i0 : (0 : Int) ≤ (i : Int) := by omega
                have i1 : (i : Int) < (n : Int) := by omega
                clear d1 d2
                generalize s.l.getD i 0 = y at *
                go_wp2
                go_quiet (fail)
                go_wp2
                go_roundw
                case rel => exact ⟨i + 1, by omega, by go_num, _, rfl⟩
                case measure => simp [intOf]; omega
              · obtain rfl : i = n := by omega
                have i1 : ¬ (i : Int) < (i : Int) := by omega
                go_wp2_with (go_at_call 17; refine (cctx_count (HC6.out.drewN _)).mono ?_; rintro r w8 ⟨rfl, rfl⟩)
                go_ret
                exact ⟨rfl, by rw [HE0.out]; exact HB1.out.trans ((HC6.out.drewN _).bel.mono (HE0.out ▸ HB0.out))⟩
          · have t1 : (0 : Int) ≤ I := by omega
            have t2 : ¬ I < (n : Int) := by omega
            clear h1
            clear hh
            go_wp2_with (go_at_call 17; refine (cctx_count HC6.out).mono ?_; rintro r w8 ⟨rfl, rfl⟩)
            go_loopw [14] (fun i wr => ∃ k : Nat, k ≤ n ∧ i = .int .i64 k ∧ ∃ q, wr = w6.drewN q) (fun i _ => n - (intOf i).toNat)
            case atStart => exact ⟨0, Nat.zero_le _, rfl, 0, rfl⟩
            case round =>
              obtain ⟨i, hi, rfl, q, rfl⟩ := hrel
              by_cases hlt : i < n
              · obtain ⟨g1, o1, rfl, d1⟩ := D1.out (by omega)
                obtain ⟨g2, o2, rfl, d2⟩ := D2.out (by omega)
                have e1 := d1 i hlt
                have e2 := d2 i hlt
                have i0 : (0 : Int) ≤ (i : Int) := by omega
                have i1 : (i : Int) < (n : Int) := by omega
                clear d1 d2
                generalize s.l.getD i 0 = y at *
                go_wp2
                go_quiet (fail)
                go_wp2
                go_roundw
                case rel => exact ⟨i + 1, by omega, by go_num, _, rfl⟩
                case measure => simp [intOf]; omega
              · obtain rfl : i = n := by omega
                have i1 : ¬ (i : Int) < (i : Int) := by omega
                go_wp2_with (go_at_call 17; refine (cctx_count (HC6.out.drewN _)).mono ?_; rintro r w8 ⟨rfl, rfl⟩)
                go_ret
                exact ⟨rfl, by rw [HE0.out]; exact HB1.out.trans ((HC6.out.drewN _).bel.mono (HE0.out ▸ HB0.out))⟩
        · refine (cctx_write HC.out hcc I V).mono ?_
          rw [swap_bad_eq (by unfold CS.why; rw [hw]; decide), show s.why I V = 3 from hw]
          rintro r w5 ⟨rfl, hC, hO5⟩
          have HC5 := Lib.hid hC
          have HO5 := Lib.hid (ownsRow_onlS HO1.out hO5 HFAR.out)
          clear hC hO5 HO1 HC hw HFAR
          go_wp2_with fail
          refine (cctx_all HC5.out).mono ?_
          rintro r w6 ⟨v2, rfl, hO, hC, hb⟩
          obtain ⟨A1, c1, rfl, d1⟩ := ints_any (IntsIn.of_own (ownsRow_below HO5.out hb (Nat.le_refl _)) rfl) hsl
          obtain ⟨A2, c2, rfl, d2⟩ := ints_any (IntsIn.of_own hO rfl) hsl
          have D1 := Lib.hid d1
          have D2 := Lib.hid d2
          have HC6 := Lib.hid hC
          have q1 : w6.cell? ⟨b0, 1, none⟩ = some (.int .i64 I) := (HC6.out.bel.cell (p := ⟨b0, 1, none⟩) HBOX.out.lt).trans ((HBOX.out.cell 1).trans rfl)
          have q2 : w6.cell? ⟨b0, 2, none⟩ = some (.int .i64 V) := (HC6.out.bel.cell (p := ⟨b0, 2, none⟩) HBOX.out.lt).trans ((HBOX.out.cell 2).trans rfl)
          clear hO hC hb HC5 HO5 d1 d2
          by_cases hh : V < 0
          · have t1 : ¬ (0 : Int) ≤ V := by omega
            have t2 : I < (n : Int) := by omega
            clear h1 h2
            clear hh
            go_wp2_with (go_at_call 17; refine (cctx_count HC6.out).mono ?_; rintro r w8 ⟨rfl, rfl⟩)
            go_loopw [14] (fun i wr => ∃ k : Nat, k ≤ n ∧ i = .int .i64 k ∧ ∃ q, wr = w6.drewN q) (fun i _ => n - (intOf i).toNat)
            case atStart => exact ⟨0, Nat.zero_le _, rfl, 0, rfl⟩
            case round =>
              obtain ⟨i, hi, rfl, q, rfl⟩ := hrel
              by_cases hlt : i < n
              · obtain ⟨g1, o1, rfl, d1⟩ := D1.out (by omega)
                obtain ⟨g2, o2, rfl, d2⟩ := D2.out (by omega)
                have e1 := d1 i hlt
                have e2 := d2 i hlt
                have i0 : (0 : Int) ≤ (i : Int) := by omega
                have i1 : (i : Int) < (n : Int) := by omega
                clear d1 d2
                generalize s.l.getD i 0 = y at *
                go_wp2
                go_quiet (fail)
                go_wp2
                go_roundw
                case rel => exact ⟨i + 1, by omega, by go_num, _, rfl⟩
                case measure => simp [intOf]; omega
              · obtain rfl : i = n := by omega
                have i1 : ¬ (i : Int) < (i : Int) := by omega
                go_wp2_with (go_at_call 17; refine (cctx_count (HC6.out.drewN _)).mono ?_; rintro r w8 ⟨rfl, rfl⟩)
                go_ret
                exact ⟨rfl, by rw [HE0.out]; exact HB1.out.trans ((HC6.out.drewN _).bel.mono (HE0.out ▸ HB0.out))⟩
          · have t1 : (0 : Int) ≤ V := by omega
            have t2 : I < (n : Int) := by omega
            have t3 : decide (V ≤ 2147483647) = false := by simp; omega
            clear h1 h2
            clear hh
            go_wp2_with (go_at_call 17; refine (cctx_count HC6.out).mono ?_; rintro r w8 ⟨rfl, rfl⟩)
            go_loopw [14] (fun i wr => ∃ k : Nat, k ≤ n ∧ i = .int .i64 k ∧ ∃ q, wr = w6.drewN q) (fun i _ => n - (intOf i).toNat)
            case atStart => exact ⟨0, Nat.zero_le _, rfl, 0, rfl⟩
            case round =>
              obtain ⟨i, hi, rfl, q, rfl⟩ := hrel
              by_cases hlt : i < n
              · obtain ⟨g1, o1, rfl, d1⟩ := D1.out (by omega)
                obtain ⟨g2, o2, rfl, d2⟩ := D2.out (by omega)
                have e1 := d1 i hlt
                have e2 := d2 i hlt
                have i0 : (0 : Int) ≤ (i : Int) := by omega
                have i1 : (i : Int) < (n : Int) := by omega
                clear d1 d2
                generalize s.l.getD i 0 = y at *
                go_wp2
                go_quiet (fail)
                go_wp2
                go_roundw
                case rel => exact ⟨i + 1, by omega, by go_num, _, rfl⟩
                case measure => simp [intOf]; omega
              · obtain rfl : i = n := by omega
                have i1 : ¬ (i : Int) < (i : Int) := by omega
                go_wp2_with (go_at_call 17; refine (cctx_count (HC6.out.drewN _)).mono ?_; rintro r w8 ⟨rfl, rfl⟩)
                go_ret
                exact ⟨rfl, by rw [HE0.out]; exact HB1.out.trans ((HC6.out.drewN _).bel.mono (HE0.out ▸ HB0.out))⟩
    · have b1 : ¬ (k : Int) < (l.length : Int) := by omega
      clear hC hlt hk hk60
      go_wp2_with fail
      refine (cctx_all HC.out).mono ?_
      rintro r w4 ⟨v1, rfl, hO, hC, hb4⟩
      have HO1 := Lib.hid hO
      have HFAR := Lib.hid (show ∀ k, memS ma la k → k < wr.heap.size from by have h1 := HC.out.at_.m.lt; have h2 := HC.out.at_.d.lt; rintro k (rfl | rfl) <;> assumption)
      clear HC hO hb4
      have HC := Lib.hid hC
      clear hC
      go_wp2_with fail
      refine (cctx_count HC.out).mono ?_
      rintro r w4 ⟨rfl, rfl⟩
      have q1 : w4.cell? ⟨b0, 1, none⟩ = some (.int .i64 I) := (HC.out.bel.cell (p := ⟨b0, 1, none⟩) HBOX.out.lt).trans ((HBOX.out.cell 1).trans rfl)
      have q2 : w4.cell? ⟨b0, 2, none⟩ = some (.int .i64 V) := (HC.out.bel.cell (p := ⟨b0, 2, none⟩) HBOX.out.lt).trans ((HBOX.out.cell 2).trans rfl)
      go_wp2_with fail
      clear q1 q2
      have wc : wrap64 ((s.c : Int) + 1) = (s.c : Int) + 1 := by unfold wrap64; omega
      have wn : ((s.c : Int) == (s.c : Int) + 1) = false := beq_eq_false_iff_ne.2 (by omega)
      rcases why_cases s.l.length I V with ⟨hw, h0, h1, h2, h3⟩ | ⟨hw, h1⟩ | ⟨hw, h0, h1, h2⟩
      · obtain ⟨j, rfl⟩ := Int.eq_ofNat_of_zero_le h0
        have hj : j < s.l.length := by omega
        refine (cctx_write HC.out hcc (j : Int) V).mono ?_
        rw [swap_in hj h2 h3]
        rintro r w5 ⟨rfl, hC, hO5⟩
        have HC5 := Lib.hid hC
        have HO5 := Lib.hid (ownsRow_onlS HO1.out hO5 HFAR.out)
        clear hC hO5 HO1 HC hw HFAR
        go_wp2_with fail
        refine (cctx_all HC5.out).mono ?_
        rintro r w6 ⟨v2, rfl, hO, hC, hb⟩
        obtain ⟨A1, c1, rfl, d1⟩ := ints_any (IntsIn.of_own (ownsRow_below HO5.out hb (Nat.le_refl _)) rfl) hsl
        obtain ⟨A2, c2, rfl, d2⟩ := ints_any (IntsIn.of_own hO rfl) (show (s.l.set j V).length = n by rw [List.length_set]; exact hsl)
        have D1 := Lib.hid d1
        have D2 := Lib.hid d2
        have HC6 := Lib.hid hC
        have q1 : w6.cell? ⟨b0, 1, none⟩ = some (.int .i64 (j : Int)) := (HC6.out.bel.cell (p := ⟨b0, 1, none⟩) HBOX.out.lt).trans ((HBOX.out.cell 1).trans rfl)
        have q2 : w6.cell? ⟨b0, 2, none⟩ = some (.int .i64 V) := (HC6.out.bel.cell (p := ⟨b0, 2, none⟩) HBOX.out.lt).trans ((HBOX.out.cell 2).trans rfl)
        clear hO hC hb HC5 HO5 d1 d2
        have t1 : (j : Int) < (n : Int) := by omega
        clear h0 h1 hj
        go_wp2_with (go_at_call 17; refine (cctx_count HC6.out).mono ?_; rintro r w8 ⟨rfl, rfl⟩)
        go_loopw [14] (fun i wr => ∃ k : Nat, k ≤ n ∧ i = .int .i64 k ∧ ∃ q, wr = w6.drewN q) (fun i _ => n - (intOf i).toNat)
        case atStart => exact ⟨0, Nat.zero_le _, rfl, 0, rfl⟩
        case round =>
          obtain ⟨i, hi, rfl, q, rfl⟩ := hrel
          by_cases hlt : i < n
          · obtain ⟨g1, o1, rfl, d1⟩ := D1.out (by omega)
            obtain ⟨g2, o2, rfl, d2⟩ := D2.out (by omega)
            have e1 := d1 i hlt
            have e2 := d2 i hlt
            have i0 : (0 : Int) ≤ (i : Int) := by omega
            have i1 : (i : Int) < (n : Int) := by omega
            have e3 := d2 j (by omega)
            rw [set_val _ _ _ _ (by omega), if_pos rfl] at e3
            rw [set_val _ _ _ _ (by omega)] at e2
            clear d1 d2
            by_cases hij : j = i
            · subst hij
              rw [if_pos rfl] at e2
              clear e3
              generalize s.l.getD j 0 = y at *
              by_cases hy : V = y
              · subst hy
                go_wp2
                go_quiet (fail)
                go_wp2
                go_roundw
                case rel => exact ⟨j + 1, by omega, by go_num, _, rfl⟩
                case measure => simp [intOf]; omega
              · have hyb : (V == y) = false := by simp [hy]
                have hyn : (V != y) = true := by simp [hy]
                have hyd : decide (V = y) = false := by simp [hy]
                go_wp2
                go_quiet (fail)
                go_wp2
                go_roundw
                case rel => exact ⟨j + 1, by omega, by go_num, _, rfl⟩
                case measure => simp [intOf]; omega
            · rw [if_neg hij] at e2
              generalize s.l.getD i 0 = y at *
              go_wp2
              go_quiet (fail)
              go_wp2
              go_roundw
              case rel => exact ⟨i + 1, by omega, by go_num, _, rfl⟩
              case measure => simp [intOf]; omega
          · obtain rfl : i = n := by omega
            have i1 : ¬ (i : Int) < (i : Int) := by omega
            go_wp2_with (go_at_call 17; refine (cctx_count (HC6.out.drewN _)).mono ?_; rintro r w8 ⟨rfl, rfl⟩)
            go_ret
            exact ⟨rfl, by rw [HE0.out]; exact HB1.out.trans ((HC6.out.drewN _).bel.mono (HE0.out ▸ HB0.out))⟩
      · refine (cctx_write HC.out hcc I V).mono ?_
        rw [swap_bad_eq (by unfold CS.why; rw [hw]; decide), show s.why I V = 7 from hw]
        rintro r w5 ⟨rfl, hC, hO5⟩
        have HC5 := Lib.hid hC
        have HO5 := Lib.hid (ownsRow_onlS HO1.out hO5 HFAR.out)
        clear hC hO5 HO1 HC hw HFAR
        go_wp2_with fail
        refine (cctx_all HC5.out).mono ?_
        rintro r w6 ⟨v2, rfl, hO, hC, hb⟩
        obtain ⟨A1, c1, rfl, d1⟩ := ints_any (IntsIn.of_own (ownsRow_below HO5.out hb (Nat.le_refl _)) rfl) hsl
        obtain ⟨A2, c2, rfl, d2⟩ := ints_any (IntsIn.of_own hO rfl) hsl
        have D1 := Lib.hid d1
        have D2 := Lib.hid d2
        have HC6 := Lib.hid hC
        have q1 : w6.cell? ⟨b0, 1, none⟩ = some (.int .i64 I) := (HC6.out.bel.cell (p := ⟨b0, 1, none⟩) HBOX.out.lt).trans ((HBOX.out.cell 1).trans rfl)
        have q2 : w6.cell? ⟨b0, 2, none⟩ = some (.int .i64 V) := (HC6.out.bel.cell (p := ⟨b0, 2, none⟩) HBOX.out.lt).trans ((HBOX.out.cell 2).trans rfl)
        clear hO hC hb HC5 HO5 d1 d2
        by_cases hh : I < 0
        · have t1 : ¬ (0 : Int) ≤ I := by omega
          clear h1
          clear hh
          go_wp2_with (go_at_call 17; refine (cctx_count HC6.out).mono ?_; rintro r w8 ⟨rfl, rfl⟩)
          go_loopw [14] (fun i wr => ∃ k : Nat, k ≤ n ∧ i = .int .i64 k ∧ ∃ q, wr = w6.drewN q) (fun i _ => n - (intOf i).toNat)
          case atStart => exact ⟨0, Nat.zero_le _, rfl, 0, rfl⟩
          case round =>
            obtain ⟨i, hi, rfl, q, rfl⟩ := hrel
            by_cases hlt : i < n
            · obtain ⟨g1, o1, rfl, d1⟩ := D1.out (by omega)
              obtain ⟨g2, o2, rfl, d2⟩ := D2.out (by omega)
              have e1 := d1 i hlt
              have e2 := d2 i hlt
              have i0 : (0 : Int) ≤ (i : Int) := by omega
              have i1 : (i : Int) < (n : Int) := by omega
              clear d1 d2
              generalize s.l.getD i 0 = y at *
              go_wp2
              go_quiet (fail)
              go_wp2
              go_roundw
              case rel => exact ⟨i + 1, by omega, by go_num, _, rfl⟩
              case measure => simp [intOf]; omega
            · obtain rfl : i = n := by omega
              have i1 : ¬ (i : Int) < (i : Int) := by omega
              go_wp2_with (go_at_call 17; refine (cctx_count (HC6.out.drewN _)).mono ?_; rintro r w8 ⟨rfl, rfl⟩)
              go_ret
              exact ⟨rfl, by rw [HE0.out]; exact HB1.out.trans ((HC6.out.drewN _).bel.mono (HE0.out ▸ HB0.out))⟩
        · have t1 : (0 : Int) ≤ I := by omega
          have t2 : ¬ I < (n : Int) := by omega
          clear h1
          clear hh
          go_wp2_with (go_at_call 17; refine (cctx_count HC6.out).mono ?_; rintro r w8 ⟨rfl, rfl⟩)
          go_loopw [14] (fun i wr => ∃ k : Nat, k ≤ n ∧ i = .int .i64 k ∧ ∃ q, wr = w6.drewN q) (fun i _ => n - (intOf i).toNat)
          case atStart => exact ⟨0, Nat.zero_le _, rfl, 0, rfl⟩
          case round =>
            obtain ⟨i, hi, rfl, q, rfl⟩ := hrel
            by_cases hlt : i < n
            · obtain ⟨g1, o1, rfl, d1⟩ := D1.out (by omega)
              obtain ⟨g2, o2, rfl, d2⟩ := D2.out (by omega)
              have e1 := d1 i hlt
              have e2 := d2 i hlt
              have i0 : (0 : Int) ≤ (i : Int) := by omega
              have i1 : (i : Int) < (n : Int) := by omega
              clear d1 d2
              generalize s.l.getD i 0 = y at *
              go_wp2
              go_quiet (fail)
              go_wp2
              go_roundw
              case rel => exact ⟨i + 1, by omega, by go_num, _, rfl⟩
              case measure => simp [intOf]; omega
            · obtain rfl : i = n := by omega
              have i1 : ¬ (i : Int) < (i : Int) := by omega
              go_wp2_with (go_at_call 17; refine (cctx_count (HC6.out.drewN _)).mono ?_; rintro r w8 ⟨rfl, rfl⟩)
              go_ret
              exact ⟨rfl, by rw [HE0.out]; exact HB1.out.trans ((HC6.out.drewN _).bel.mono (HE0.out ▸ HB0.out))⟩
      · refine (cctx_write HC.out hcc I V).mono ?_
        rw [swap_bad_eq (by unfold CS.why; rw [hw]; decide), show s.why I V = 3 from hw]
        rintro r w5 ⟨rfl, hC, hO5⟩
        have HC5 := Lib.hid hC
        have HO5 := Lib.hid (ownsRow_onlS HO1.out hO5 HFAR.out)
        clear hC hO5 HO1 HC hw HFAR
        go_wp2_with fail
        refine (cctx_all HC5.out).mono ?_
        rintro r w6 ⟨v2, rfl, hO, hC, hb⟩
        obtain ⟨A1, c1, rfl, d1⟩ := ints_any (IntsIn.of_own (ownsRow_below HO5.out hb (Nat.le_refl _)) rfl) hsl
        obtain ⟨A2, c2, rfl, d2⟩ := ints_any (IntsIn.of_own hO rfl) hsl
        have D1 := Lib.hid d1
        have D2 := Lib.hid d2
        have HC6 := Lib.hid hC
        have q1 : w6.cell? ⟨b0, 1, none⟩ = some (.int .i64 I) := (HC6.out.bel.cell (p := ⟨b0, 1, none⟩) HBOX.out.lt).trans ((HBOX.out.cell 1).trans rfl)
        have q2 : w6.cell? ⟨b0, 2, none⟩ = some (.int .i64 V) := (HC6.out.bel.cell (p := ⟨b0, 2, none⟩) HBOX.out.lt).trans ((HBOX.out.cell 2).trans rfl)
        clear hO hC hb HC5 HO5 d1 d2
        by_cases hh : V < 0
        · have t1 : ¬ (0 : Int) ≤ V := by omega
          have t2 : I < (n : Int) := by omega
          clear h1 h2
          clear hh
          go_wp2_with (go_at_call 17; refine (cctx_count HC6.out).mono ?_; rintro r w8 ⟨rfl, rfl⟩)
          go_loopw [14] (fun i wr => ∃ k : Nat, k ≤ n ∧ i = .int .i64 k ∧ ∃ q, wr = w6.drewN q) (fun i _ => n - (intOf i).toNat)
          case atStart => exact ⟨0, Nat.zero_le _, rfl, 0, rfl⟩
          case round =>
            obtain ⟨i, hi, rfl, q, rfl⟩ := hrel
            by_cases hlt : i < n
            · obtain ⟨g1, o1, rfl, d1⟩ := D1.out (by omega)
              obtain ⟨g2, o2, rfl, d2⟩ := D2.out (by omega)
              have e1 := d1 i hlt
              have e2 := d2 i hlt
              have i0 : (0 : Int) ≤ (i : Int) := by omega
              have i1 : (i : Int) < (n : Int) := by omega
              clear d1 d2
              generalize s.l.getD i 0 = y at *
              go_wp2
              go_quiet (fail)
              go_wp2
              go_roundw
              case rel => exact ⟨i + 1, by omega, by go_num, _, rfl⟩
              case measure => simp [intOf]; omega
            · obtain rfl : i = n := by omega
              have i1 : ¬ (i : Int) < (i : Int) := by omega
              go_wp2_with (go_at_call 17; refine (cctx_count (HC6.out.drewN _)).mono ?_; rintro r w8 ⟨rfl, rfl⟩)
              go_ret
              exact ⟨rfl, by rw [HE0.out]; exact HB1.out.trans ((HC6.out.drewN _).bel.mono (HE0.out ▸ HB0.out))⟩
        · have t1 : (0 : Int) ≤ V := by omega
          have t2 : I < (n : Int) := by omega
          have t3 : decide (V ≤ 2147483647) = false := by simp; omega
          clear h1 h2
          clear hh
          go_wp2_with (go_at_call 17; refine (cctx_count HC6.out).mono ?_; rintro r w8 ⟨rfl, rfl⟩)
          go_loopw [14] (fun i wr => ∃ k : Nat, k ≤ n ∧ i = .int .i64 k ∧ ∃ q, wr = w6.drewN q) (fun i _ => n - (intOf i).toNat)
          case atStart => exact ⟨0, Nat.zero_le _, rfl, 0, rfl⟩
          case round =>
            obtain ⟨i, hi, rfl, q, rfl⟩ := hrel
            by_cases hlt : i < n
            · obtain ⟨g1, o1, rfl, d1⟩ := D1.out (by omega)
              obtain ⟨g2, o2, rfl, d2⟩ := D2.out (by omega)
              have e1 := d1 i hlt
              have e2 := d2 i hlt
              have i0 : (0 : Int) ≤ (i : Int) := by omega
              have i1 : (i : Int) < (n : Int) := by omega
              clear d1 d2
              generalize s.l.getD i 0 = y at *
              go_wp2
              go_quiet (fail)
              go_wp2
              go_roundw
              case rel => exact ⟨i + 1, by omega, by go_num, _, rfl⟩
              case measure => simp [intOf]; omega
            · obtain rfl : i = n := by omega
              have i1 : ¬ (i : Int) < (i : Int) := by omega
              go_wp2_with (go_at_call 17; refine (cctx_count (HC6.out.drewN _)).mono ?_; rintro r w8 ⟨rfl, rfl⟩)
              go_ret
              exact ⟨rfl, by rw [HE0.out]; exact HB1.out.trans ((HC6.out.drewN _).bel.mono (HE0.out ▸ HB0.out))⟩
theorem cellApart_law (c : Int) (A : Option Addr) (len cap : Nat) (l : List St) (e : St) (W : World) (hs : StsIn W (.slice A len cap) l) (_ : len ≤ cap) (_ : cap ≤ maxLen) (_ : stFits e) (hL : laidC W) :
    Calls Tryd.prog 4 #[.int .i64 c, .slice A len cap, .agg e.cells] W fun r w' => r = .returned (.bool true) ∧ Below W.heap.size W w' := law_cellApart c A len cap l e.k e.i e.v (err_of_laid hL) hs
end Go.Proofs.YtkamcjejongmbaaDoor
