/- The reference's ring: Push. -/
import Derived.Test.YtelfclcljdjohaaDoorRefB
import Derived.Test.YtelfclcljdjohaaDoorRefC
namespace Go.Proofs.YtelfclcljdjohaaDoor
open Go.RowKit

set_option maxRecDepth 100000 in
set_option maxHeartbeats 3200000 in
theorem refpush_any {w : World} {X : Nat → Prop} {r : RF} {s : RS} (h : RefIn w X r s) (hk : s.ok) {A : Option Addr} {n cc : Nat} {l : List Int} (hv : IntsIn w (.slice A n cc) l) (hl : l.length ≤ 65536) :
    Calls Tryd.prog 28 #[r.v, .slice A n cc] w fun e w' => ∃ r', e = .returned (.tuple #[RF.v r', .int .i64 (s.pushR l).2]) ∧ Below w.heap.size w w' ∧ RefIn w' (newX X w w') r' (s.pushR l).1 := by
  obtain ⟨A1, c1, e, hlc, hcs⟩ := hv
  injection e with e1 e2 e3
  subst e1 e2 e3
  have hW := h.W
  have hW1 := hk.w1
  by_cases hlen : l.length = s.W
  · have b1 : ((l.length : Int) != (s.W : Int)) = false := by simp; omega
    obtain ⟨g, o, rfl, hcell⟩ := hcs (by omega)
    unfold RF.v
    go_enter Tryd.func28, Tryd.ntmps28
    go_upto_region 0 with (fail)
    go_cut [2, 4, 5] (fun p0 p1 p2 wx => ∃ x y, p0 = .pointer (some ⟨x, 0, none⟩) ∧ p1 = .pointer (some ⟨y, 0, none⟩) ∧ p2 = .int .i64 0 ∧ Boxed 51 w wx x y r.cells)
    case first =>
      go_wp2_with fail
      go_meet
      exact ⟨_, _, rfl, rfl, rfl, boxed_new _ _ _ _ rfl⟩
    case rest =>
      obtain ⟨x, y, rfl, rfl, rfl, hB⟩ := hcut
      have HR := Lib.hid (show ∀ w', Below w.heap.size w w' → RefIn w' (newX X w w') r s from fun w' hb => h.go hb)
      have k_W : wc.cell? ⟨x, 1, none⟩ = some (.int .i64 r.W) := (hB.hx.cell 1).trans rfl
      have k_pu : wc.cell? ⟨x, 12, none⟩ = some (.bool r.pu) := (hB.hx.cell 12).trans rfl
      have k_ma : wc.cell? ⟨x, 14, none⟩ = some (.int .i64 r.ma) := (hB.hx.cell 14).trans rfl
      have k_inn : wc.cell? ⟨x, 20, none⟩ = some (.slice r.inn.A r.inn.n r.inn.c) := (hB.hx.cell 20).trans rfl
      have f_pu := hB.hx.fr 12
      have f_ma := hB.hx.fr 14
      have f_inn := hB.hx.fr 20
      rw [hW] at k_W
      have HPU := Lib.hid h.pu
      have HC := Lib.hid (show ∀ i (h : i < l.length), wc.cell? ⟨g, o + i, none⟩ = some (.int .i64 l[i]) from fun i hi => (hB.bel.cell (p := ⟨g, o + i, none⟩) (World.block_lt_of_cell? _ _ (hcell i hi))).trans (hcell i hi))
      have HLEN := Lib.hid hlen
      have hgw : g < w.heap.size := World.block_lt_of_cell? _ _ (hcell 0 (by omega))
      have HB2 := Lib.hid hB
      obtain ⟨zs, hz, hy⟩ := HB2.out.hy
      have HY := Lib.hid (And.intro hz hy)
      clear h hW hcs hcell hz hy hlen hB
      go_wp2_with fail
      go_loop [6] (fun i => ∃ k : Nat, k ≤ l.length ∧ i = .int .i64 k ∧ ∀ t (h : t < l.length), t < k → okWord l[t]) (fun i => l.length - (intOf i).toNat)
      case atStart => exact ⟨0, Nat.zero_le _, rfl, fun t _ e => by omega⟩
      case round =>
        obtain ⟨k, hk', rfl, hall⟩ := hrel
        have HALL := Lib.hid hall
        clear hall
        by_cases hlt : k < l.length
        · have ck := HC.out k hlt
          obtain ⟨y1, hy1⟩ : ∃ y1, l[k] = y1 := ⟨_, rfl⟩
          rw [hy1] at ck
          have HY1 := Lib.hid hy1
          clear hy1
          have b2 : (k : Int) < (l.length : Int) := by omega
          have b0 : (0 : Int) ≤ (k : Int) := by omega
          by_cases hok : okWord y1
          · have h0 : ¬ y1 < 0 := by unfold okWord at hok; omega
            have h1 : ¬ 2147483647 < y1 := by unfold okWord at hok; omega
            have HN := Lib.hid (show ∀ t (h : t < l.length), t < k + 1 → okWord l[t] from fun t ht e => by
              rcases Nat.lt_or_ge t k with h' | h'
              · exact HALL.out t ht h'
              · have : t = k := by omega
                subst this
                rw [HY1.out]
                exact hok)
            clear hok HALL
            go_wp2_with fail
            go_round
            case rel => exact ⟨k + 1, by omega, by go_num, HN.out⟩
            case measure => simp [intOf]; omega
          · have HPR := Lib.hid (show s.pushR l = (s, 3) by unfold RS.pushR; rw [if_neg (fun e => hok (by rw [← HY1.out]; exact e.2 _ (List.getElem_mem _)))])
            have hb : y1 < 0 ∨ 2147483647 < y1 := by unfold okWord at hok; omega
            clear hok HALL
            by_cases h0 : y1 < 0
            all_goals
              first | (have h1 : (2147483647 : Int) < y1 := by omega) | skip
              go_wp2_with (first
              | (refine wpList_load_row rfl 51 _ rfl x rfl 51 _ (0, 0) _ HB2.out.hx Tryd.underlying51 rfl rinfo ?_)
              | (refine wpList_store_row rfl 51 _ _ rfl y _ rfl rfl 51 zs HY.out.2 rinfo HY.out.1 (RF.ones _) ?_))
              (try simp only [Exit.inBlock, Exit.then]); refine bodyPost_ret (res_c2 rfl _ rfl HB2.out.row Tryd.underlying51 rfl rinfo) rfl ?_
              rw [HPR.out]
              exact ⟨r, rfl, HB2.out.end_, HR.out _ HB2.out.end_⟩
        · obtain rfl : k = l.length := by omega
          have hall : ∀ v ∈ l, okWord v := fun v hv => by
            obtain ⟨t, ht, rfl⟩ := List.getElem_of_mem hv
            exact HALL.out t ht ht
          have b2 : ¬ (l.length : Int) < (l.length : Int) := by omega
          by_cases hia : s.ia = 0
          · have HPR := Lib.hid (show s.pushR l = (s.pushed l, 0) by unfold RS.pushR; rw [if_pos ⟨HLEN.out, hall⟩, if_pos hia])
            rw [show r.pu = false by rw [HPU.out, hia]; rfl] at k_pu
            have HB3 := Lib.hid (show Boxed 51 w ((wc.setCell ⟨x, 12, none⟩ (.bool true)).setCell ⟨x, 14, none⟩ (.int .i64 0)) x y ({ r with pu := true, ma := 0 } : RF).cells from (HB2.out.set 12 (.bool true)).set 14 (.int .i64 0))
            have hsz : ((wc.setCell ⟨x, 12, none⟩ (.bool true)).setCell ⟨x, 14, none⟩ (.int .i64 0)).heap.size = wc.heap.size := by simp [World.setCell]
            have hgx : g ≠ x := by have := HB2.out.gx; omega
            have HI3 := Lib.hid (show IntsIn ((wc.setCell ⟨x, 12, none⟩ (.bool true)).setCell ⟨x, 14, none⟩ (.int .i64 0)) (.slice (some ⟨g, o, none⟩) l.length cc) l from
              ⟨_, cc, rfl, hlc, fun _ => ⟨g, o, rfl, fun i hi => by rw [cell_far (Ne.symm hgx), cell_far (Ne.symm hgx)]; exact HC.out i hi⟩⟩)
            have k3_inn : ((wc.setCell ⟨x, 12, none⟩ (.bool true)).setCell ⟨x, 14, none⟩ (.int .i64 0)).cell? ⟨x, 20, none⟩ = some r.inn.v := (HB3.out.hx.cell 20).trans rfl
            have hl0 : 0 < l.length := by have := HLEN.out; omega
            have hxl : x < wc.heap.size := HB2.out.hx.lt
            have hyl : y < wc.heap.size := HY.out.2.lt
            have hwl := HB2.out.bel.size
            have HA := Lib.hid hall
            clear hall HALL HC HB2 HY
            go_wp2_with (at_builtin; go_loud (refine app_copy rfl _ _ rfl l rfl _ rfl HI3.out hl0 hl ?_))
            intro v' w4 ho hb
            obtain ⟨A', c', rfl⟩ := own_form ho
            have hB4 := HB3.out.go (by rw [hsz]; exact hb)
            have k4_inn : w4.cell? ⟨x, 20, none⟩ = some r.inn.v := (hB4.hx.cell 20).trans rfl
            have f4_inn := hB4.hx.fr 20
            have HB5 := Lib.hid (show Boxed 51 w (w4.setCell ⟨x, 20, none⟩ (.slice A' l.length c')) x y ({ r with pu := true, ma := 0, inn := ⟨A', l.length, c'⟩ } : RF).cells from hB4.set 20 (.slice A' l.length c'))
            obtain ⟨zs, hz, hy⟩ := HB5.out.hy
            have HY := Lib.hid (And.intro hz hy)
            have HNEW := Lib.hid (show IntsX ((w4.setCell ⟨x, 20, none⟩ (.slice A' l.length c')).setRow y ({ r with pu := true, ma := 0, inn := ⟨A', l.length, c'⟩ } : RF).cells) (newX X w ((w4.setCell ⟨x, 20, none⟩ (.slice A' l.length c')).setRow y ({ r with pu := true, ma := 0, inn := ⟨A', l.length, c'⟩ } : RF).cells)) (.slice A' l.length c') l from by
              have h1 : IntsX w4 (newX (fun _ => False) wc w4) (.slice A' l.length c') l := IntsX.own ho rfl (by omega)
              have h2 := h1.keep (w' := (w4.setCell ⟨x, 20, none⟩ (.slice A' l.length c')).setRow y ({ r with pu := true, ma := 0, inn := ⟨A', l.length, c'⟩ } : RF).cells) (fun g hg => by
                rcases hg with e | ⟨e, -⟩
                · exact e.elim
                · rw [setRow_other _ _ _ _ (by omega), Below.heap_setCell _ _ _ _ (by simp only []; omega)])
              exact h2.mono (fun g hg => by
                rcases hg with e | ⟨e, e'⟩
                · exact e.elim
                · exact .inr ⟨by omega, by simpa [World.setCell] using e'⟩))
            clear ho hb hB4 hz hy HB3 HI3 k3_inn
            go_wp2_with (first
              | (refine wpList_load_row rfl 51 _ rfl x rfl 51 _ (0, 0) _ HB5.out.hx Tryd.underlying51 rfl rinfo ?_)
              | (refine wpList_store_row rfl 51 _ _ rfl y _ rfl rfl 51 zs HY.out.2 rinfo HY.out.1 (RF.ones _) ?_))
            (try simp only [Exit.inBlock, Exit.then]); refine bodyPost_ret (res_c2 rfl _ rfl HB5.out.row Tryd.underlying51 rfl rinfo) rfl ?_
            rw [HPR.out]
            exact ⟨_, rfl, HB5.out.end_, refin_push (HR.out _ HB5.out.end_) l _ HNEW.out⟩
          · have HPR := Lib.hid (show s.pushR l = (s, 1) by unfold RS.pushR; rw [if_pos ⟨HLEN.out, hall⟩, if_neg hia])
            rw [show r.pu = true by rw [HPU.out]; simp [hia]] at k_pu
            clear hall HALL
            go_wp2_with (first
              | (refine wpList_load_row rfl 51 _ rfl x rfl 51 _ (0, 0) _ HB2.out.hx Tryd.underlying51 rfl rinfo ?_)
              | (refine wpList_store_row rfl 51 _ _ rfl y _ rfl rfl 51 zs HY.out.2 rinfo HY.out.1 (RF.ones _) ?_))
            (try simp only [Exit.inBlock, Exit.then]); refine bodyPost_ret (res_c2 rfl _ rfl HB2.out.row Tryd.underlying51 rfl rinfo) rfl ?_
            rw [HPR.out]
            exact ⟨r, rfl, HB2.out.end_, HR.out _ HB2.out.end_⟩
  · rw [show s.pushR l = (s, 3) by unfold RS.pushR; rw [if_neg (fun e => hlen e.1)]]
    have b1 : ((l.length : Int) != (s.W : Int)) = true := by simp; omega
    unfold RF.v
    go_enter Tryd.func28, Tryd.ntmps28
    go_upto_region 0 with (fail)
    go_cut [2, 4, 5] (fun p0 p1 p2 wx => ∃ x y, p0 = .pointer (some ⟨x, 0, none⟩) ∧ p1 = .pointer (some ⟨y, 0, none⟩) ∧ p2 = .int .i64 0 ∧ Boxed 51 w wx x y r.cells)
    case first =>
      go_wp2_with fail
      go_meet
      exact ⟨_, _, rfl, rfl, rfl, boxed_new _ _ _ _ rfl⟩
    case rest =>
      obtain ⟨x, y, rfl, rfl, rfl, hB⟩ := hcut
      have HR := Lib.hid (show ∀ w', Below w.heap.size w w' → RefIn w' (newX X w w') r s from fun w' hb => h.go hb)
      have k_W : wc.cell? ⟨x, 1, none⟩ = some (.int .i64 r.W) := (hB.hx.cell 1).trans rfl
      rw [hW] at k_W
      clear h hW hlen hcs
      have HB2 := Lib.hid (show Boxed 51 w (wc) x y (r : RF).cells from hB)
      obtain ⟨zs, hz, hy⟩ := HB2.out.hy
      have HY := Lib.hid (And.intro hz hy)
      clear hB hz hy
      go_wp2_with (first
        | (refine wpList_load_row rfl 51 _ rfl x rfl 51 _ (0, 0) _ HB2.out.hx Tryd.underlying51 rfl rinfo ?_)
        | (refine wpList_store_row rfl 51 _ _ rfl y _ rfl rfl 51 zs HY.out.2 rinfo HY.out.1 (RF.ones _) ?_))
      (try simp only [Exit.inBlock, Exit.then]); refine bodyPost_ret (res_c2 rfl _ rfl HB2.out.row Tryd.underlying51 rfl rinfo) rfl ?_
      exact ⟨r, rfl, HB2.out.end_, HR.out _ HB2.out.end_⟩
end Go.Proofs.YtelfclcljdjohaaDoor
