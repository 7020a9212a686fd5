/- The reference's register: Read, Drop, Write. -/
import Derived.Test.YtdhbiogcaekbbaaDoorTrefA
import Derived.Deep.CutBlock
import Derived.StillTailTactics
namespace Go.Proofs.YtdhbiogcaekbbaaDoor
open Go.RowKit

open Classical in
noncomputable def TS.wrR (s : TS) (l : List Int) : TS × Int :=
  if l.length = s.W ∧ ∀ v ∈ l, okWord v then (if s.ia = 0 then (s.wrt l, 0) else (s, 1)) else (s, 3)
set_option maxRecDepth 100000 in
set_option maxHeartbeats 3200000 in
theorem refread_any {w : World} {X : Nat → Prop} {r : RF} {s : TS} (h : RefIn w X r s) :
    Calls Tryd.prog 25 #[r.v] w fun e w' => ∃ r', e = .returned (.tuple #[RF.v r', .int .i64 s.rd.2]) ∧ Below w.heap.size w w' ∧ RefIn w' (newX X w w') r' s.rd.1 := by
  by_cases h0 : s.oa = 0
  · rw [show s.rd = ({ s with oa := 1, ol := [] }, 0) by simp [TS.rd, h0]]
    have hp : r.rd = false := by rw [h.rd]; simp [TS.busy, h0]
    unfold RF.v
    go_enter Tryd.func25, Tryd.ntmps25
    go_upto_region 0 with (fail)
    go_cut [1, 2, 3] (fun p0 p1 p2 wx => ∃ x y, p0 = .pointer (some ⟨x, 0, none⟩) ∧ p1 = .pointer (some ⟨y, 0, none⟩) ∧ p2 = .int .i64 0 ∧ Boxed 50 w wx x y r.cells)
    case first =>
      go_wp2_with fail
      go_meet
      exact ⟨_, _, rfl, rfl, rfl, boxed_new _ _ _ _ rfl⟩
    case rest =>
      obtain ⟨x, y, rfl, rfl, rfl, hB⟩ := hcut
      have HR := Lib.hid (show ∀ w', Below w.heap.size w w' → RefIn w' (newX X w w') r s from fun w' hb => h.go hb)
      have k_rd : wc.cell? ⟨x, 8, none⟩ = some (.bool r.rd) := (hB.hx.cell 8).trans rfl
      rw [hp] at k_rd
      have k_ak : wc.cell? ⟨x, 10, none⟩ = some (.bool r.ak) := (hB.hx.cell 10).trans rfl
      have k_fs : wc.cell? ⟨x, 11, none⟩ = some (.bool r.fs) := (hB.hx.cell 11).trans rfl
      have k_out : wc.cell? ⟨x, 13, none⟩ = some (.slice r.out.A r.out.n r.out.c) := (hB.hx.cell 13).trans rfl
      have f_rd := hB.hx.fr 8
      have f_ak := hB.hx.fr 10
      have f_fs := hB.hx.fr 11
      have f_out := hB.hx.fr 13
      clear h hp
      have HB2 := Lib.hid (show Boxed 50 w (((((wc.setCell ⟨x, 8, none⟩ (.bool true)).setCell ⟨x, 10, none⟩ (.bool false)).setCell ⟨x, 11, none⟩ (.bool false)).setCell ⟨x, 13, none⟩ (.slice none 0 0))) x y ({ r with rd := true, ak := false, fs := false, out := ⟨none, 0, 0⟩ } : RF).cells from ((((hB.set 8 (.bool true)).set 10 (.bool false)).set 11 (.bool false)).set 13 (.slice none 0 0)))
      obtain ⟨zs, hz, hy⟩ := HB2.out.hy
      have HY := Lib.hid (And.intro hz hy)
      clear hB hz hy
      go_wp2_with (first
        | ((with_reducible change wpList _ _ _ _ _ (((((wc.setCell ⟨x, 8, none⟩ (.bool true)).setCell ⟨x, 10, none⟩ (.bool false)).setCell ⟨x, 11, none⟩ (.bool false)).setCell ⟨x, 13, none⟩ (.slice none 0 0)))); refine wpList_load_row rfl 50 _ rfl x rfl 50 _ (0, 0) _ HB2.out.hx Tryd.underlying50 rfl rinfo ?_)
        | ((with_reducible change wpList _ _ _ _ _ (((((wc.setCell ⟨x, 8, none⟩ (.bool true)).setCell ⟨x, 10, none⟩ (.bool false)).setCell ⟨x, 11, none⟩ (.bool false)).setCell ⟨x, 13, none⟩ (.slice none 0 0)))); refine wpList_store_row rfl 50 _ _ rfl y _ rfl rfl 50 zs HY.out.2 rinfo HY.out.1 (RF.ones _) ?_))
      (try simp only [Exit.inBlock, Exit.then]); refine bodyPost_ret (res_c2 rfl _ rfl HB2.out.row Tryd.underlying50 rfl rinfo) rfl ?_
      exact ⟨_, rfl, HB2.out.end_, refin_read (HR.out _ HB2.out.end_)⟩
  · rw [show s.rd = (s, 1) by simp [TS.rd, h0]]
    have hp : r.rd = true := by rw [h.rd]; simp [TS.busy, h0]
    unfold RF.v
    go_enter Tryd.func25, Tryd.ntmps25
    go_upto_region 0 with (fail)
    go_cut [1, 2, 3] (fun p0 p1 p2 wx => ∃ x y, p0 = .pointer (some ⟨x, 0, none⟩) ∧ p1 = .pointer (some ⟨y, 0, none⟩) ∧ p2 = .int .i64 0 ∧ Boxed 50 w wx x y r.cells)
    case first =>
      go_wp2_with fail
      go_meet
      exact ⟨_, _, rfl, rfl, rfl, boxed_new _ _ _ _ rfl⟩
    case rest =>
      obtain ⟨x, y, rfl, rfl, rfl, hB⟩ := hcut
      have HR := Lib.hid (show ∀ w', Below w.heap.size w w' → RefIn w' (newX X w w') r s from fun w' hb => h.go hb)
      have k_rd : wc.cell? ⟨x, 8, none⟩ = some (.bool r.rd) := (hB.hx.cell 8).trans rfl
      rw [hp] at k_rd
      clear h hp
      have HB2 := Lib.hid (show Boxed 50 w (wc) x y (r : RF).cells from hB)
      obtain ⟨zs, hz, hy⟩ := HB2.out.hy
      have HY := Lib.hid (And.intro hz hy)
      clear hB hz hy
      go_wp2_with (first
        | ((with_reducible change wpList _ _ _ _ _ (wc)); refine wpList_load_row rfl 50 _ rfl x rfl 50 _ (0, 0) _ HB2.out.hx Tryd.underlying50 rfl rinfo ?_)
        | ((with_reducible change wpList _ _ _ _ _ (wc)); refine wpList_store_row rfl 50 _ _ rfl y _ rfl rfl 50 zs HY.out.2 rinfo HY.out.1 (RF.ones _) ?_))
      (try simp only [Exit.inBlock, Exit.then]); refine bodyPost_ret (res_c2 rfl _ rfl HB2.out.row Tryd.underlying50 rfl rinfo) rfl ?_
      exact ⟨_, rfl, HB2.out.end_, HR.out _ HB2.out.end_⟩
set_option maxRecDepth 100000 in
set_option maxHeartbeats 3200000 in
theorem refdrop_any {w : World} {X : Nat → Prop} {r : RF} {s : TS} (h : RefIn w X r s) (b : Bool) :
    Calls Tryd.prog 27 #[r.v, .bool b] w fun e w' => ∃ r', e = .returned (.tuple #[RF.v r', .bool (s.drop b).2]) ∧ Below w.heap.size w w' ∧ RefIn w' (newX X w w') r' (s.drop b).1 := by
  cases b
  · obtain ⟨dd, hdd⟩ : ∃ dd, dd = (s.drop false).2 := ⟨_, rfl⟩
    rw [← hdd]
    have hp : r.rd = dd := by
      rw [hdd]
      rw [h.rd]
      simp only [TS.drop, TS.dropR, TS.busy]
      by_cases h0 : s.oa = 0 <;> simp [h0]
    have hs : ∀ (w' : World) (Y : Nat → Prop) (r' : RF), RefIn w' Y r' { s with oa := 0 } → RefIn w' Y r' (s.drop false).1 := fun w' Y r' h' => by
      simp only [TS.drop, TS.dropR]
      by_cases h0 : s.oa = 0
      · rw [if_pos h0]
        have e : ({ s with oa := 0 } : TS) = s := by rw [← h0]
        rw [e] at h'
        exact h'
      · rw [if_neg h0]; exact h'
    unfold RF.v
    go_enter Tryd.func27, Tryd.ntmps27
    go_upto_region 0 with (fail)
    go_cut [2, 4, 5] (fun p0 p1 p2 wx => ∃ x y, p0 = .pointer (some ⟨x, 0, none⟩) ∧ p1 = .pointer (some ⟨y, 0, none⟩) ∧ p2 = .bool false ∧ Boxed 50 w wx x y r.cells)
    case first =>
      go_wp2_with fail
      go_meet
      exact ⟨_, _, rfl, rfl, rfl, boxed_new _ _ _ _ rfl⟩
    case rest =>
      obtain ⟨x, y, rfl, rfl, rfl, hB⟩ := hcut
      have HR := Lib.hid (show ∀ w', Below w.heap.size w w' → RefIn w' (newX X w w') r s from fun w' hb => h.go hb)
      have HS := Lib.hid hs
      have k_rd : wc.cell? ⟨x, 8, none⟩ = some (.bool r.rd) := (hB.hx.cell 8).trans rfl
      rw [hp] at k_rd
      have f_rd := hB.hx.fr 8
      have HDD := Lib.hid hdd
      clear h hp hs hdd HDD
      have HB2 := Lib.hid (show Boxed 50 w ((wc.setCell ⟨x, 8, none⟩ (.bool false))) x y ({ r with rd := false } : RF).cells from (hB.set 8 (.bool false)))
      obtain ⟨zs, hz, hy⟩ := HB2.out.hy
      have HY := Lib.hid (And.intro hz hy)
      clear hB hz hy
      go_wp2_with (first
        | ((with_reducible change wpList _ _ _ _ _ ((wc.setCell ⟨x, 8, none⟩ (.bool false)))); refine wpList_load_row rfl 50 _ rfl x rfl 50 _ (0, 0) _ HB2.out.hx Tryd.underlying50 rfl rinfo ?_)
        | ((with_reducible change wpList _ _ _ _ _ ((wc.setCell ⟨x, 8, none⟩ (.bool false)))); refine wpList_store_row rfl 50 _ _ rfl y _ rfl rfl 50 zs HY.out.2 rinfo HY.out.1 (RF.ones _) ?_))
      (try simp only [Exit.inBlock, Exit.then]); refine bodyPost_ret (res_c2 rfl _ rfl HB2.out.row Tryd.underlying50 rfl rinfo) rfl ?_
      exact ⟨_, rfl, HB2.out.end_, HS.out _ _ _ (refin_dropR (HR.out _ HB2.out.end_))⟩
  · obtain ⟨dd, hdd⟩ : ∃ dd, dd = (s.drop true).2 := ⟨_, rfl⟩
    rw [← hdd]
    have hp : r.wr = dd := by
      rw [hdd]
      rw [h.wr]
      simp only [TS.drop, TS.dropW, TS.busy]
      by_cases h0 : s.ia = 0 <;> simp [h0]
    have hs : ∀ (w' : World) (Y : Nat → Prop) (r' : RF), RefIn w' Y r' { s with ia := 0 } → RefIn w' Y r' (s.drop true).1 := fun w' Y r' h' => by
      simp only [TS.drop, TS.dropW]
      by_cases h0 : s.ia = 0
      · rw [if_pos h0]
        have e : ({ s with ia := 0 } : TS) = s := by rw [← h0]
        rw [e] at h'
        exact h'
      · rw [if_neg h0]; exact h'
    unfold RF.v
    go_enter Tryd.func27, Tryd.ntmps27
    go_upto_region 0 with (fail)
    go_cut [2, 4, 5] (fun p0 p1 p2 wx => ∃ x y, p0 = .pointer (some ⟨x, 0, none⟩) ∧ p1 = .pointer (some ⟨y, 0, none⟩) ∧ p2 = .bool false ∧ Boxed 50 w wx x y r.cells)
    case first =>
      go_wp2_with fail
      go_meet
      exact ⟨_, _, rfl, rfl, rfl, boxed_new _ _ _ _ rfl⟩
    case rest =>
      obtain ⟨x, y, rfl, rfl, rfl, hB⟩ := hcut
      have HR := Lib.hid (show ∀ w', Below w.heap.size w w' → RefIn w' (newX X w w') r s from fun w' hb => h.go hb)
      have HS := Lib.hid hs
      have k_wr : wc.cell? ⟨x, 7, none⟩ = some (.bool r.wr) := (hB.hx.cell 7).trans rfl
      rw [hp] at k_wr
      have f_wr := hB.hx.fr 7
      have HDD := Lib.hid hdd
      clear h hp hs hdd HDD
      have HB2 := Lib.hid (show Boxed 50 w ((wc.setCell ⟨x, 7, none⟩ (.bool false))) x y ({ r with wr := false } : RF).cells from (hB.set 7 (.bool false)))
      obtain ⟨zs, hz, hy⟩ := HB2.out.hy
      have HY := Lib.hid (And.intro hz hy)
      clear hB hz hy
      go_wp2_with (first
        | ((with_reducible change wpList _ _ _ _ _ ((wc.setCell ⟨x, 7, none⟩ (.bool false)))); refine wpList_load_row rfl 50 _ rfl x rfl 50 _ (0, 0) _ HB2.out.hx Tryd.underlying50 rfl rinfo ?_)
        | ((with_reducible change wpList _ _ _ _ _ ((wc.setCell ⟨x, 7, none⟩ (.bool false)))); refine wpList_store_row rfl 50 _ _ rfl y _ rfl rfl 50 zs HY.out.2 rinfo HY.out.1 (RF.ones _) ?_))
      (try simp only [Exit.inBlock, Exit.then]); refine bodyPost_ret (res_c2 rfl _ rfl HB2.out.row Tryd.underlying50 rfl rinfo) rfl ?_
      exact ⟨_, rfl, HB2.out.end_, HS.out _ _ _ (refin_dropW (HR.out _ HB2.out.end_))⟩
set_option maxRecDepth 100000 in
set_option maxHeartbeats 3200000 in
theorem refwrite_any {w : World} {X : Nat → Prop} {r : RF} {s : TS} (h : RefIn w X r s) (hk : s.fine) {A : Option Addr} {n cc : Nat} {l : List Int} (hv : IntsIn w (.slice A n cc) l) (hl : l.length ≤ 65536) :
    Calls Tryd.prog 23 #[r.v, .slice A n cc] w fun e w' => ∃ r', e = .returned (.tuple #[RF.v r', .int .i64 (s.wrR l).2]) ∧ Below w.heap.size w w' ∧ RefIn w' (newX X w w') r' (s.wrR l).1 := by
  obtain ⟨A1, c1, e, hlc, hcs⟩ := hv
  injection e with e1 e2 e3
  subst e1 e2 e3
  have hW := h.W
  have hW1 := hk.ok.w1
  by_cases hlen : l.length = s.W
  · have b1 : ((l.length : Int) != (s.W : Int)) = false := by simp; omega
    obtain ⟨g, o, rfl, hcell⟩ := hcs (by omega)
    unfold RF.v
    go_enter Tryd.func23, Tryd.ntmps23
    go_upto_region 0 with (fail)
    go_cut [2, 4, 5] (fun p0 p1 p2 wx => ∃ x y, p0 = .pointer (some ⟨x, 0, none⟩) ∧ p1 = .pointer (some ⟨y, 0, none⟩) ∧ p2 = .int .i64 0 ∧ Boxed 50 w wx x y r.cells)
    case first =>
      go_wp2_with fail
      go_meet
      exact ⟨_, _, rfl, rfl, rfl, boxed_new _ _ _ _ rfl⟩
    case rest =>
      obtain ⟨x, y, rfl, rfl, rfl, hB⟩ := hcut
      have HR := Lib.hid (show ∀ w', Below w.heap.size w w' → RefIn w' (newX X w w') r s from fun w' hb => h.go hb)
      have k_W : wc.cell? ⟨x, 0, none⟩ = some (.int .i64 r.W) := (hB.hx.cell 0).trans rfl
      have k_pu : wc.cell? ⟨x, 7, none⟩ = some (.bool r.wr) := (hB.hx.cell 7).trans rfl
      have k_ma : wc.cell? ⟨x, 9, none⟩ = some (.int .i64 r.ma) := (hB.hx.cell 9).trans rfl
      have k_inn : wc.cell? ⟨x, 12, none⟩ = some (.slice r.inn.A r.inn.n r.inn.c) := (hB.hx.cell 12).trans rfl
      have f_pu := hB.hx.fr 7
      have f_ma := hB.hx.fr 9
      have f_inn := hB.hx.fr 12
      rw [hW] at k_W
      have HPU := Lib.hid h.wr
      have HC := Lib.hid (show ∀ i (h : i < l.length), wc.cell? ⟨g, o + i, none⟩ = some (.int .i64 l[i]) from fun i hi => (hB.bel.cell (p := ⟨g, o + i, none⟩) (World.block_lt_of_cell? _ _ (hcell i hi))).trans (hcell i hi))
      have HLEN := Lib.hid hlen
      have hgw : g < w.heap.size := World.block_lt_of_cell? _ _ (hcell 0 (by omega))
      have HB2 := Lib.hid hB
      obtain ⟨zs, hz, hy⟩ := HB2.out.hy
      have HY := Lib.hid (And.intro hz hy)
      clear h hW hcs hcell hz hy hlen hB
      go_wp2_with fail
      go_loop [6] (fun i => ∃ k : Nat, k ≤ l.length ∧ i = .int .i64 k ∧ ∀ t (h : t < l.length), t < k → okWord l[t]) (fun i => l.length - (intOf i).toNat)
      case atStart => exact ⟨0, Nat.zero_le _, rfl, fun t _ e => by omega⟩
      case round =>
        obtain ⟨k, hk', rfl, hall⟩ := hrel
        have HALL := Lib.hid hall
        clear hall
        by_cases hlt : k < l.length
        · have ck := HC.out k hlt
          obtain ⟨y1, hy1⟩ : ∃ y1, l[k] = y1 := ⟨_, rfl⟩
          rw [hy1] at ck
          have HY1 := Lib.hid hy1
          clear hy1
          have b2 : (k : Int) < (l.length : Int) := by omega
          have b0 : (0 : Int) ≤ (k : Int) := by omega
          by_cases hok : okWord y1
          · have h0 : ¬ y1 < 0 := by unfold okWord at hok; omega
            have h1 : ¬ 2147483647 < y1 := by unfold okWord at hok; omega
            have HN := Lib.hid (show ∀ t (h : t < l.length), t < k + 1 → okWord l[t] from fun t ht e => by
              rcases Nat.lt_or_ge t k with h' | h'
              · exact HALL.out t ht h'
              · have : t = k := by omega
                subst this
                rw [HY1.out]
                exact hok)
            clear hok HALL
            go_wp2_with fail
            go_round
            case rel => exact ⟨k + 1, by omega, by go_num, HN.out⟩
            case measure => simp [intOf]; omega
          · have HPR := Lib.hid (show s.wrR l = (s, 3) by unfold TS.wrR; rw [if_neg (fun e => hok (by rw [← HY1.out]; exact e.2 _ (List.getElem_mem _)))])
            have hb : y1 < 0 ∨ 2147483647 < y1 := by unfold okWord at hok; omega
            clear hok HALL
            by_cases h0 : y1 < 0
            all_goals
              first | (have h1 : (2147483647 : Int) < y1 := by omega) | skip
              go_wp2_with (first
              | (refine wpList_load_row rfl 50 _ rfl x rfl 50 _ (0, 0) _ HB2.out.hx Tryd.underlying50 rfl rinfo ?_)
              | (refine wpList_store_row rfl 50 _ _ rfl y _ rfl rfl 50 zs HY.out.2 rinfo HY.out.1 (RF.ones _) ?_))
              (try simp only [Exit.inBlock, Exit.then]); refine bodyPost_ret (res_c2 rfl _ rfl HB2.out.row Tryd.underlying50 rfl rinfo) rfl ?_
              rw [HPR.out]
              exact ⟨r, rfl, HB2.out.end_, HR.out _ HB2.out.end_⟩
        · obtain rfl : k = l.length := by omega
          have hall : ∀ v ∈ l, okWord v := fun v hv => by
            obtain ⟨t, ht, rfl⟩ := List.getElem_of_mem hv
            exact HALL.out t ht ht
          have b2 : ¬ (l.length : Int) < (l.length : Int) := by omega
          by_cases hia : s.ia = 0
          · have HPR := Lib.hid (show s.wrR l = (s.wrt l, 0) by unfold TS.wrR; rw [if_pos ⟨HLEN.out, hall⟩, if_pos hia])
            rw [show r.wr = false by rw [HPU.out]; simp [TS.busy, hia]] at k_pu
            have HB3 := Lib.hid (show Boxed 50 w ((wc.setCell ⟨x, 7, none⟩ (.bool true)).setCell ⟨x, 9, none⟩ (.int .i64 0)) x y ({ r with wr := true, ma := 0 } : RF).cells from (HB2.out.set 7 (.bool true)).set 9 (.int .i64 0))
            have hsz : ((wc.setCell ⟨x, 7, none⟩ (.bool true)).setCell ⟨x, 9, none⟩ (.int .i64 0)).heap.size = wc.heap.size := by simp [World.setCell]
            have hgx : g ≠ x := by have := HB2.out.gx; omega
            have HI3 := Lib.hid (show IntsIn ((wc.setCell ⟨x, 7, none⟩ (.bool true)).setCell ⟨x, 9, none⟩ (.int .i64 0)) (.slice (some ⟨g, o, none⟩) l.length cc) l from
              ⟨_, cc, rfl, hlc, fun _ => ⟨g, o, rfl, fun i hi => by rw [cell_far (Ne.symm hgx), cell_far (Ne.symm hgx)]; exact HC.out i hi⟩⟩)
            have k3_inn : ((wc.setCell ⟨x, 7, none⟩ (.bool true)).setCell ⟨x, 9, none⟩ (.int .i64 0)).cell? ⟨x, 12, none⟩ = some r.inn.v := (HB3.out.hx.cell 12).trans rfl
            have hl0 : 0 < l.length := by have := HLEN.out; omega
            have hxl : x < wc.heap.size := HB2.out.hx.lt
            have hyl : y < wc.heap.size := HY.out.2.lt
            have hwl := HB2.out.bel.size
            have HA := Lib.hid hall
            clear hall HALL HC HB2 HY
            go_wp2_with (at_builtin; go_loud (refine app_copy rfl _ _ rfl l rfl _ rfl HI3.out hl0 hl ?_))
            intro v' w4 ho hb
            obtain ⟨A', c', rfl⟩ := own_form ho
            have hB4 := HB3.out.go (by rw [hsz]; exact hb)
            have k4_inn : w4.cell? ⟨x, 12, none⟩ = some r.inn.v := (hB4.hx.cell 12).trans rfl
            have f4_inn := hB4.hx.fr 12
            have HB5 := Lib.hid (show Boxed 50 w (w4.setCell ⟨x, 12, none⟩ (.slice A' l.length c')) x y ({ r with wr := true, ma := 0, inn := ⟨A', l.length, c'⟩ } : RF).cells from hB4.set 12 (.slice A' l.length c'))
            obtain ⟨zs, hz, hy⟩ := HB5.out.hy
            have HY := Lib.hid (And.intro hz hy)
            have HNEW := Lib.hid (show IntsX ((w4.setCell ⟨x, 12, none⟩ (.slice A' l.length c')).setRow y ({ r with wr := true, ma := 0, inn := ⟨A', l.length, c'⟩ } : RF).cells) (newX X w ((w4.setCell ⟨x, 12, none⟩ (.slice A' l.length c')).setRow y ({ r with wr := true, ma := 0, inn := ⟨A', l.length, c'⟩ } : RF).cells)) (.slice A' l.length c') l from by
              have h1 : IntsX w4 (newX (fun _ => False) wc w4) (.slice A' l.length c') l := IntsX.own ho rfl (by omega)
              have h2 := h1.keep (w' := (w4.setCell ⟨x, 12, none⟩ (.slice A' l.length c')).setRow y ({ r with wr := true, ma := 0, inn := ⟨A', l.length, c'⟩ } : RF).cells) (fun g hg => by
                rcases hg with e | ⟨e, -⟩
                · exact e.elim
                · rw [setRow_other _ _ _ _ (by omega), Below.heap_setCell _ _ _ _ (by simp only []; omega)])
              exact h2.mono (fun g hg => by
                rcases hg with e | ⟨e, e'⟩
                · exact e.elim
                · exact .inr ⟨by omega, by simpa [World.setCell] using e'⟩))
            clear ho hb hB4 hz hy HB3 HI3 k3_inn
            go_wp2_with (first
              | (refine wpList_load_row rfl 50 _ rfl x rfl 50 _ (0, 0) _ HB5.out.hx Tryd.underlying50 rfl rinfo ?_)
              | (refine wpList_store_row rfl 50 _ _ rfl y _ rfl rfl 50 zs HY.out.2 rinfo HY.out.1 (RF.ones _) ?_))
            (try simp only [Exit.inBlock, Exit.then]); refine bodyPost_ret (res_c2 rfl _ rfl HB5.out.row Tryd.underlying50 rfl rinfo) rfl ?_
            rw [HPR.out]
            exact ⟨_, rfl, HB5.out.end_, refin_write (HR.out _ HB5.out.end_) l _ HNEW.out⟩
          · have HPR := Lib.hid (show s.wrR l = (s, 1) by unfold TS.wrR; rw [if_pos ⟨HLEN.out, hall⟩, if_neg hia])
            rw [show r.wr = true by rw [HPU.out]; simp [TS.busy, hia]] at k_pu
            clear hall HALL
            go_wp2_with (first
              | (refine wpList_load_row rfl 50 _ rfl x rfl 50 _ (0, 0) _ HB2.out.hx Tryd.underlying50 rfl rinfo ?_)
              | (refine wpList_store_row rfl 50 _ _ rfl y _ rfl rfl 50 zs HY.out.2 rinfo HY.out.1 (RF.ones _) ?_))
            (try simp only [Exit.inBlock, Exit.then]); refine bodyPost_ret (res_c2 rfl _ rfl HB2.out.row Tryd.underlying50 rfl rinfo) rfl ?_
            rw [HPR.out]
            exact ⟨r, rfl, HB2.out.end_, HR.out _ HB2.out.end_⟩
  · rw [show s.wrR l = (s, 3) by unfold TS.wrR; rw [if_neg (fun e => hlen e.1)]]
    have b1 : ((l.length : Int) != (s.W : Int)) = true := by simp; omega
    unfold RF.v
    go_enter Tryd.func23, Tryd.ntmps23
    go_upto_region 0 with (fail)
    go_cut [2, 4, 5] (fun p0 p1 p2 wx => ∃ x y, p0 = .pointer (some ⟨x, 0, none⟩) ∧ p1 = .pointer (some ⟨y, 0, none⟩) ∧ p2 = .int .i64 0 ∧ Boxed 50 w wx x y r.cells)
    case first =>
      go_wp2_with fail
      go_meet
      exact ⟨_, _, rfl, rfl, rfl, boxed_new _ _ _ _ rfl⟩
    case rest =>
      obtain ⟨x, y, rfl, rfl, rfl, hB⟩ := hcut
      have HR := Lib.hid (show ∀ w', Below w.heap.size w w' → RefIn w' (newX X w w') r s from fun w' hb => h.go hb)
      have k_W : wc.cell? ⟨x, 0, none⟩ = some (.int .i64 r.W) := (hB.hx.cell 0).trans rfl
      rw [hW] at k_W
      clear h hW hlen hcs
      have HB2 := Lib.hid (show Boxed 50 w (wc) x y (r : RF).cells from hB)
      obtain ⟨zs, hz, hy⟩ := HB2.out.hy
      have HY := Lib.hid (And.intro hz hy)
      clear hB hz hy
      go_wp2_with (first
        | (refine wpList_load_row rfl 50 _ rfl x rfl 50 _ (0, 0) _ HB2.out.hx Tryd.underlying50 rfl rinfo ?_)
        | (refine wpList_store_row rfl 50 _ _ rfl y _ rfl rfl 50 zs HY.out.2 rinfo HY.out.1 (RF.ones _) ?_))
      (try simp only [Exit.inBlock, Exit.then]); refine bodyPost_ret (res_c2 rfl _ rfl HB2.out.row Tryd.underlying50 rfl rinfo) rfl ?_
      exact ⟨r, rfl, HB2.out.end_, HR.out _ HB2.out.end_⟩
end Go.Proofs.YtdhbiogcaekbbaaDoor
