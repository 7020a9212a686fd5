/- The reference's register: right, Write. -/
import Derived.Test.YtmcelldklmjlkaaDoorFrefA
import Derived.Deep.CutBlock
import Derived.StillTailTactics
namespace Go.Proofs.YtmcelldklmjlkaaDoor
open Go.RowKit

def RightE (e : Ending) (p : Prop) : Prop := ∃ m : Bool, e = .returned (.bool m) ∧ (m = true ↔ p)
set_option maxRecDepth 100000 in
set_option maxHeartbeats 3200000 in
theorem refright_any {w : World} {X : Nat → Prop} {r : RF} {s : FS} (h : RefIn w X r s) {v : Value} {l : List Int} (hv : IntsIn w v l) (hl : l.length ≤ 65536) :
    Calls Tryd.prog 65 #[r.v, v] w fun e w' => RightE e (l.length = s.W ∧ allOk l) ∧ Below w.heap.size w w' := by
  have hW := h.W
  obtain ⟨A, cc, rfl, hlc, hcs⟩ := hv
  unfold RF.v
  go_enter Tryd.func65, Tryd.ntmps65
  go_upto_region 0 with (fail)
  go_cut [2, 4] (fun p0 p1 wx => ∃ x, p0 = .pointer (some ⟨x, 0, none⟩) ∧ p1 = .bool false ∧ Blk wx x 46 r.cells ∧ Below w.heap.size w wx)
  case first =>
    go_wp2_with fail
    go_meet
    exact ⟨_, rfl, rfl, Blk.new w _ _, below_alloc (Nat.le_refl _) _⟩
  case rest =>
    obtain ⟨x, rfl, rfl, hx, hb⟩ := hcut
    have k_W : wc.cell? ⟨x, 0, none⟩ = some (.int .i64 r.W) := (hx.cell 0).trans rfl
    rw [hW] at k_W
    have Hb := Lib.hid hb
    have HC := Lib.hid (show 0 < l.length → ∃ g o, A = some ⟨g, o, none⟩ ∧ ∀ i (h : i < l.length), wc.cell? ⟨g, o + i, none⟩ = some (.int .i64 l[i]) from fun hp => by
      obtain ⟨g, o, e, hc⟩ := hcs hp
      exact ⟨g, o, e, fun i hi => (hb.cell (p := ⟨g, o + i, none⟩) (World.block_lt_of_cell? _ _ (hc i hi))).trans (hc i hi)⟩)
    clear h hW hx hb hcs
    go_wp2
    go_loop [5] (fun i => ∃ k : Nat, k ≤ l.length ∧ i = .int .i64 k ∧ ∀ t (h : t < l.length), t < k → okWord l[t]) (fun i => l.length - (intOf i).toNat)
    case atStart => exact ⟨0, Nat.zero_le _, rfl, fun t _ e => by omega⟩
    case round =>
      obtain ⟨k, hk', rfl, hall⟩ := hrel
      have HALL := Lib.hid hall
      clear hall
      by_cases hlt : k < l.length
      · obtain ⟨g, o, rfl, hc⟩ := HC.out (by omega)
        have ck := hc k hlt
        obtain ⟨y1, hy1⟩ : ∃ y1, l[k] = y1 := ⟨_, rfl⟩
        rw [hy1] at ck
        have HY1 := Lib.hid hy1
        clear hy1 hc
        have b2 : (k : Int) < (l.length : Int) := by omega
        have b0 : (0 : Int) ≤ (k : Int) := by omega
        by_cases hok : okWord y1
        · have h0 : ¬ y1 < 0 := by unfold okWord at hok; omega
          have h1 : ¬ 2147483647 < y1 := by unfold okWord at hok; omega
          have HN := Lib.hid (show ∀ t (h : t < l.length), t < k + 1 → okWord l[t] from fun t ht e => by
            rcases Nat.lt_or_ge t k with h' | h'
            · exact HALL.out t ht h'
            · have : t = k := by omega
              subst this
              rw [HY1.out]
              exact hok)
          clear hok HALL
          go_wp2_with fail
          go_round
          case rel => exact ⟨k + 1, by omega, by go_num, HN.out⟩
          case measure => simp [intOf]; omega
        · have HPR := Lib.hid (show ¬ (l.length = s.W ∧ allOk l) from fun e => hok (by rw [← HY1.out]; exact e.2 _ (List.getElem_mem _)))
          have hbad : y1 < 0 ∨ 2147483647 < y1 := by unfold okWord at hok; omega
          clear hok HALL
          by_cases h0 : y1 < 0
          all_goals
            first | (have h1 : (2147483647 : Int) < y1 := by omega) | skip
            go_wp2_with fail
            go_ret
            exact ⟨⟨false, rfl, by simp only [Bool.false_eq_true, false_iff]; exact HPR.out⟩, Hb.out⟩
      · obtain rfl : k = l.length := by omega
        have b2 : ¬ (l.length : Int) < (l.length : Int) := by omega
        have hall : allOk l := fun v hv => by
          obtain ⟨t, ht, rfl⟩ := List.getElem_of_mem hv
          exact HALL.out t ht ht
        have HA := Lib.hid hall
        clear hall HALL HC
        by_cases hlen : l.length = s.W
        · have hb : ((l.length : Int) == (s.W : Int)) = true := by simp; omega
          have HL := Lib.hid hlen
          clear hlen
          go_wp2_with fail
          go_ret
          exact ⟨⟨true, by simp, by simp only [true_iff]; exact ⟨HL.out, HA.out⟩⟩, Hb.out⟩
        · have hb : ((l.length : Int) == (s.W : Int)) = false := by simp; omega
          have HL := Lib.hid hlen
          clear hlen
          go_wp2_with fail
          go_ret
          exact ⟨⟨false, by simp, by simp only [Bool.false_eq_true, false_iff]; exact fun e => HL.out e.1⟩, Hb.out⟩
set_option maxRecDepth 100000 in
set_option maxHeartbeats 3200000 in
theorem refwrite_any {w : World} {X : Nat → Prop} {r : RF} {s : FS} (h : RefIn w X r s) (hk : s.ok) {v : Value} {l : List Int} (hv : IntsIn w v l) (hl : l.length ≤ 65536) :
    Calls Tryd.prog 40 #[r.v, v] w fun e w' => ∃ r', e = .returned (.tuple #[RF.v r', .int .i64 (s.wr l).2]) ∧ Below w.heap.size w w' ∧ RefIn w' (newX X w w') r' (s.wr l).1 := by
  have hW1 := hk.w1
  have hW6 := hk.w6
  obtain ⟨A, cc, rfl⟩ := hv.form
  unfold RF.v
  go_enter Tryd.func40, Tryd.ntmps40
  go_upto_region 0 with (fail)
  go_cut [2, 4, 5] (fun p0 p1 p2 wx => ∃ x y, p0 = .pointer (some ⟨x, 0, none⟩) ∧ p1 = .pointer (some ⟨y, 0, none⟩) ∧ p2 = .int .i64 0 ∧ Boxed 46 w wx x y r.cells)
  case first =>
    go_wp2_with fail
    go_meet
    exact ⟨_, _, rfl, rfl, rfl, boxed_new _ _ _ _ rfl⟩
  case rest =>
    obtain ⟨x, y, rfl, rfl, rfl, hB⟩ := hcut
    have HR := Lib.hid (show ∀ w', Below w.heap.size w w' → RefIn w' (newX X w w') r s from fun w' hb => h.go hb)
    have HG := Lib.hid (refright_any (HR.out _ hB.bel) (hv.below hB.bel) hl)
    have HI := Lib.hid (show ∀ w', Below w.heap.size w w' → IntsIn w' (.slice A l.length cc) l from fun w' hb => hv.below hb)
    have HWR := Lib.hid h.wr
    have HB1 := Lib.hid hB
    clear h hk hB hv
    go_wp2_with (refine wpList_load_row rfl 46 _ rfl x rfl 46 _ (0, 0) _ HB1.out.hx Tryd.underlying46 rfl rinfo ?_)
    refine HG.out.mono ?_
    rintro e w2 ⟨⟨m, rfl, hm⟩, hb2⟩
    have HB2 := Lib.hid (HB1.out.go hb2)
    obtain ⟨zs, hz, hy⟩ := HB2.out.hy
    have HY := Lib.hid (And.intro hz hy)
    have HM := Lib.hid hm
    clear hb2 HB1 HG hz hy hm
    cases m
    · have HPR := Lib.hid (show s.wr l = (s, 3) by
        unfold FS.wr
        rw [if_neg (fun e => by have := HM.out.2 e; cases this)])
      clear HM
      go_wp2_with (first
        | (refine wpList_load_row rfl 46 _ rfl x rfl 46 _ (0, 0) _ HB2.out.hx Tryd.underlying46 rfl rinfo ?_)
        | (refine wpList_store_row rfl 46 _ _ rfl y _ rfl rfl 46 zs HY.out.2 rinfo HY.out.1 (RF.ones _) ?_))
      (try simp only [Exit.inBlock, Exit.then]); refine bodyPost_ret (res_c2 rfl _ rfl HB2.out.row Tryd.underlying46 rfl rinfo) rfl ?_
      rw [HPR.out]
      exact ⟨r, rfl, HB2.out.end_, HR.out _ HB2.out.end_⟩
    · have hg := HM.out.1 rfl
      have k_wr : w2.cell? ⟨x, 9, none⟩ = some (.bool r.wr) := (HB2.out.hx.cell 9).trans rfl
      by_cases hiw : s.iw = 0
      · have HPR := Lib.hid (show s.wr l = (s.wrt l, 0) by unfold FS.wr; rw [if_pos hg, if_pos hiw])
        rw [show r.wr = false by rw [HWR.out]; simp [hiw]] at k_wr
        have k_ma : w2.cell? ⟨x, 11, none⟩ = some (.int .i64 r.ma) := (HB2.out.hx.cell 11).trans rfl
        have f_wr := HB2.out.hx.fr 9
        have f_ma := HB2.out.hx.fr 11
        have HB3 := Lib.hid (show Boxed 46 w ((w2.setCell ⟨x, 9, none⟩ (.bool true)).setCell ⟨x, 11, none⟩ (.int .i64 0)) x y ({ r with wr := true, ma := 0 } : RF).cells from (HB2.out.set 9 (.bool true)).set 11 (.int .i64 0))
        have hsz : ((w2.setCell ⟨x, 9, none⟩ (.bool true)).setCell ⟨x, 11, none⟩ (.int .i64 0)).heap.size = w2.heap.size := by simp [World.setCell]
        have HI3 := Lib.hid (HI.out _ HB3.out.bel)
        have hl0 : 0 < l.length := by omega
        have hxl : x < w2.heap.size := HB2.out.hx.lt
        have hyl : y < w2.heap.size := HY.out.2.lt
        have hwl := HB2.out.bel.size
        clear HB2 HY HM hg hiw
        go_wp2_with (at_builtin; go_loud (refine app_copy rfl _ _ rfl l rfl _ rfl HI3.out hl0 hl ?_))
        intro v' w4 ho hb
        obtain ⟨A', c', rfl⟩ := own_form ho
        have hB4 := HB3.out.go (by rw [hsz]; exact hb)
        have k4_inn : w4.cell? ⟨x, 17, none⟩ = some r.inn.v := (hB4.hx.cell 17).trans rfl
        have f4_inn := hB4.hx.fr 17
        have HB5 := Lib.hid (show Boxed 46 w (w4.setCell ⟨x, 17, none⟩ (.slice A' l.length c')) x y ({ r with wr := true, ma := 0, inn := ⟨A', l.length, c'⟩ } : RF).cells from hB4.set 17 (.slice A' l.length c'))
        obtain ⟨zs, hz, hy⟩ := HB5.out.hy
        have HY := Lib.hid (And.intro hz hy)
        have HNEW := Lib.hid (show IntsX ((w4.setCell ⟨x, 17, none⟩ (.slice A' l.length c')).setRow y ({ r with wr := true, ma := 0, inn := ⟨A', l.length, c'⟩ } : RF).cells) (newX X w ((w4.setCell ⟨x, 17, none⟩ (.slice A' l.length c')).setRow y ({ r with wr := true, ma := 0, inn := ⟨A', l.length, c'⟩ } : RF).cells)) (.slice A' l.length c') l from by
          have h1 : IntsX w4 (newX (fun _ => False) w2 w4) (.slice A' l.length c') l := IntsX.own ho rfl (by omega)
          have h2 := h1.keep (w' := (w4.setCell ⟨x, 17, none⟩ (.slice A' l.length c')).setRow y ({ r with wr := true, ma := 0, inn := ⟨A', l.length, c'⟩ } : RF).cells) (fun g hg => by
            rcases hg with e | ⟨e, -⟩
            · exact e.elim
            · rw [setRow_other _ _ _ _ (by omega), Below.heap_setCell _ _ _ _ (by simp only []; omega)])
          exact h2.mono (fun g hg => by
            rcases hg with e | ⟨e, e'⟩
            · exact e.elim
            · exact .inr ⟨by omega, by simpa [World.setCell] using e'⟩))
        clear ho hb hB4 hz hy HB3 HI3
        go_wp2_with (first
          | (refine wpList_load_row rfl 46 _ rfl x rfl 46 _ (0, 0) _ HB5.out.hx Tryd.underlying46 rfl rinfo ?_)
          | (refine wpList_store_row rfl 46 _ _ rfl y _ rfl rfl 46 zs HY.out.2 rinfo HY.out.1 (RF.ones _) ?_))
        (try simp only [Exit.inBlock, Exit.then]); refine bodyPost_ret (res_c2 rfl _ rfl HB5.out.row Tryd.underlying46 rfl rinfo) rfl ?_
        rw [HPR.out]
        exact ⟨_, rfl, HB5.out.end_, refin_write (HR.out _ HB5.out.end_) l _ HNEW.out⟩
      · have HPR := Lib.hid (show s.wr l = (s, 1) by unfold FS.wr; rw [if_pos hg, if_neg hiw])
        rw [show r.wr = true by rw [HWR.out]; simp [hiw]] at k_wr
        clear HM hg hiw
        go_wp2_with (first
          | (refine wpList_load_row rfl 46 _ rfl x rfl 46 _ (0, 0) _ HB2.out.hx Tryd.underlying46 rfl rinfo ?_)
          | (refine wpList_store_row rfl 46 _ _ rfl y _ rfl rfl 46 zs HY.out.2 rinfo HY.out.1 (RF.ones _) ?_))
        (try simp only [Exit.inBlock, Exit.then]); refine bodyPost_ret (res_c2 rfl _ rfl HB2.out.row Tryd.underlying46 rfl rinfo) rfl ?_
        rw [HPR.out]
        exact ⟨r, rfl, HB2.out.end_, HR.out _ HB2.out.end_⟩
end Go.Proofs.YtmcelldklmjlkaaDoor
