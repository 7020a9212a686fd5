/- The reference's register: the writer's access of a word. -/
import Derived.Test.YtmcelldklmjlkaaDoorFrefE
import Derived.Deep.RegionHeld3
import Derived.Deep.MidRow
namespace Go.Proofs.YtmcelldklmjlkaaDoor
open Go.RowKit

set_option maxRecDepth 100000 in
set_option maxHeartbeats 6400000 in
theorem refw3 {w : World} {X : Nat → Prop} {r : RF} {s : FS} (h : RefIn w X r s) (hk : s.ok) (he : 2 < s.iw) (he' : s.iw ≤ s.W + 2) :
    Calls Tryd.prog 66 #[r.v] w fun e w' => ∃ r', e = .returned (.tuple #[RF.v r', .bool (decide (s.iw = 1))]) ∧ Below w.heap.size w w' ∧ RefIn w' (newX X w w') r' { s.accW with iw := s.iw - 1 } := by
  have hW6 := hk.w6
  have hW1 := hk.w1
  have hip := hk.ip
  have hiq := hk.iq
  rw [show decide (s.iw = 1) = false by simp; try omega]
  obtain ⟨k, hkk⟩ : ∃ k, k = s.W + 2 - s.iw := ⟨_, rfl⟩
  obtain ⟨v, hv⟩ : ∃ v, v = s.il[k]?.getD 0 := ⟨_, rfl⟩
  rw [show s.accW = { s with mem := s.mem.set (s.widx (s.W + 2 - s.iw)) v } by unfold FS.accW; rw [if_neg (by omega), if_neg (by omega), if_pos he, hv, hkk]]
  have hma : r.ma = (k : Int) + 2 := by rw [h.ma (by omega)]; omega
  have hil := (hk.il (by omega)).1
  have hro := row_len hk (2 * s.ip + s.iq) (by omega)
  obtain ⟨Ad, cd, hdv, -⟩ := (h.d (2 * s.ip + s.iq) (by omega)).form
  obtain ⟨Ai, ci, hiv, -⟩ := (h.il (by omega)).form
  obtain ⟨rfl, hin, rfl⟩ : r.inn.A = Ai ∧ r.inn.n = s.il.length ∧ r.inn.c = ci := by
    have e : Value.slice r.inn.A r.inn.n r.inn.c = .slice Ai s.il.length ci := hiv
    injection e with e1 e2 e3
    exact ⟨e1, e2, e3⟩
  obtain ⟨gi, oi, hia, hic⟩ : ∃ g o, r.inn.A = some ⟨g, o, none⟩ ∧ w.cell? ⟨g, o + k, none⟩ = some (.int .i64 v) := by
    obtain ⟨A', c', e, -, hc⟩ := (h.il (by omega)).ints
    obtain ⟨g, o, rfl, hcell⟩ := hc (by omega)
    have e' : Value.slice r.inn.A r.inn.n r.inn.c = .slice (some ⟨g, o, none⟩) s.il.length c' := e
    injection e' with e1 e2 e3
    refine ⟨g, o, e1, ?_⟩
    rw [hcell k (by omega), hv, List.getElem?_eq_getElem (by omega)]
    rfl
  have b2 : (k : Int) + 2 < 2 + (s.W : Int) := by omega
  have b6 : (k : Int) < (s.il.length : Int) := by omega
  have b8 : (0 : Int) ≤ (k : Int) := by omega
  have t0 : ((k : Int) + 2 == 0) = false := by simp; omega
  have t1 : ((k : Int) + 2 == 1) = false := by simp; omega
  have b9 : (k : Int) ≤ 6 := by omega
  have hWr := h.W
  have HE := Lib.hid (show r.pa = (s.ip : Int) ∧ r.pl = (s.iq : Int) ∧ r.inn.v = .slice (some ⟨gi, oi, none⟩) s.il.length r.inn.c from ⟨h.pa, h.pl, by rw [← hia, ← hin]; rfl⟩)
  have HPUT := Lib.hid (fun (w1 : World) (hb : Below w.heap.size w w1) => refput (w := w1) (r := ({ r with ma := (k : Int) + 2 + 1 } : RF)) (l := s.row (2 * s.ip + s.iq)) (k := k) (p := s.ip) (q := s.iq) (v := v) hip hiq (show (({ r with ma := (k : Int) + 2 + 1 } : RF).d (2 * s.ip + s.iq)).v = .slice Ad (s.row (2 * s.ip + s.iq)).length cd from by
      rw [← hdv]
      rcases (show 2 * s.ip + s.iq = 0 ∨ 2 * s.ip + s.iq = 1 ∨ 2 * s.ip + s.iq = 2 ∨ 2 * s.ip + s.iq = 3 by omega) with q | q | q | q <;> rw [q] <;> rfl) (by have := ((h.d _ (show 2 * s.ip + s.iq < 4 by omega)).below hb).ints; rw [hdv] at this; exact this) (by omega) (by omega))
  have HK := Lib.hid (And.intro hk (And.intro he (And.intro he' hkk)))
  have HIC := Lib.hid hic
  unfold RF.v
  go_enter Tryd.func66, Tryd.ntmps66
  go_upto_region 0 with (fail)
  go_cut [1, 2, 3] (fun p0 p1 p2 wx => ∃ x y, p0 = .pointer (some ⟨x, 0, none⟩) ∧ p1 = .pointer (some ⟨y, 0, none⟩) ∧ p2 = .bool false ∧ Boxed 46 w wx x y r.cells)
  case first =>
    go_wp2_with fail
    go_meet
    exact ⟨_, _, rfl, rfl, rfl, boxed_new _ _ _ _ rfl⟩
  case rest =>
    obtain ⟨x, y, rfl, rfl, rfl, hB⟩ := hcut
    have HR := Lib.hid (show ∀ w', Below w.heap.size w w' → RefIn w' (newX X w w') r s from fun w' hb => h.go hb)
    have k_ma : wc.cell? ⟨x, 11, none⟩ = some (.int .i64 r.ma) := (hB.hx.cell 11).trans rfl
    rw [hma] at k_ma
    have f_ma := hB.hx.fr 11
    have k_W : wc.cell? ⟨x, 0, none⟩ = some (.int .i64 r.W) := (hB.hx.cell 0).trans rfl
    rw [hWr] at k_W
    have hB1 : Boxed 46 w (wc.setCell ⟨x, 11, none⟩ (.int .i64 ((k : Int) + 2 + 1))) x y ({ r with ma := (k : Int) + 2 + 1 } : RF).cells := hB.set 11 (.int .i64 ((k : Int) + 2 + 1))
    have HB1 := Lib.hid hB1
    clear h hk he he' hkk hv hma hil hro hdv hiv hin hia hic hWr hB hB1
    go_wp2_with fail
    generalize wc.setCell ⟨x, 11, none⟩ (.int .i64 ((k : Int) + 2 + 1)) = w1 at *
    have hxl := HB1.out.hx.lt
    have k_e : w1.cell? ⟨gi, oi + k, none⟩ = some (.int .i64 v) := (HB1.out.bel.cell (p := ⟨gi, oi + k, none⟩) (World.block_lt_of_cell? _ _ HIC.out)).trans HIC.out
    have hwk : IntKind.i64.wrap (k : Int) = (k : Int) := by rw [IntKind.wrap_i64]; omega
    have hgl : gi < w.heap.size := World.block_lt_of_cell? _ _ HIC.out
    have hgx : gi ≠ x := by have := HB1.out.gx; omega
    have hgy : gi ≠ y := by have := HB1.out.gy; omega
    refine wp_region_held_drew (S := fun w' => Blk w' x 46 ({ r with ma := (k : Int) + 2 + 1 } : RF).cells ∧ w'.cell? ⟨gi, oi + k, none⟩ = some (.int .i64 v)) rfl ⟨HB1.out.hx, k_e⟩ fun hS => ?_
    refine wpAnyH_take (i := 0) (v := .agg ({ r with ma := (k : Int) + 2 + 1 } : RF).cells) rfl (by kernel_rfl) (by kernel_rfl) (by kernel_rfl) (fun _ _ _ h => h) (Or.inl ⟨by kernel_rfl, fun w' hS' => yields_row 46 _ rfl x rfl hS'.1 Tryd.underlying46 rfl rinfo⟩) hS ?_
    refine wpAnyH_take (i := 1) (v := .pointer (some ⟨x, 13, none⟩)) rfl (by kernel_rfl) (by kernel_rfl) (by kernel_rfl) (fun _ _ _ h => h) (Or.inl ⟨by kernel_rfl, fun w' _ => by go_simp⟩) hS ?_
    refine wpAnyH_take (i := 2) (v := .int .i64 (s.ip : Int)) rfl (by kernel_rfl) (by kernel_rfl) (by kernel_rfl) (fun _ _ _ h => h) (Or.inl ⟨by kernel_rfl, fun w' hS' => by have q : w'.cell? ⟨x, 13, none⟩ = some (.int .i64 (s.ip : Int)) := (hS'.1.cell 13).trans (by rw [← HE.out.1]; rfl); go_simp⟩) hS ?_
    refine wpAnyH_take (i := 3) (v := .pointer (some ⟨x, 15, none⟩)) rfl (by kernel_rfl) (by kernel_rfl) (by kernel_rfl) (fun _ _ _ h => h) (Or.inl ⟨by kernel_rfl, fun w' _ => by go_simp⟩) hS ?_
    refine wpAnyH_take (i := 4) (v := .int .i64 (s.iq : Int)) rfl (by kernel_rfl) (by kernel_rfl) (by kernel_rfl) (fun _ _ _ h => h) (Or.inl ⟨by kernel_rfl, fun w' hS' => by have q : w'.cell? ⟨x, 15, none⟩ = some (.int .i64 (s.iq : Int)) := (hS'.1.cell 15).trans (by rw [← HE.out.2.1]; rfl); go_simp⟩) hS ?_
    refine wpAnyH_take (i := 5) (v := .int .i64 ((k : Int) + 2)) rfl (by kernel_rfl) (by kernel_rfl) (by kernel_rfl) (fun _ _ _ h => h) (Or.inl ⟨by kernel_rfl, fun w' _ => by go_simp⟩) hS ?_
    refine wpAnyH_take (i := 6) (v := .int .i64 (k : Int)) rfl (by kernel_rfl) (by kernel_rfl) (by kernel_rfl) (fun _ _ _ h => h) (Or.inl ⟨by kernel_rfl, fun w' _ => by go_simp⟩) hS ?_
    refine wpAnyH_take (i := 7) (v := .pointer (some ⟨x, 17, none⟩)) rfl (by kernel_rfl) (by kernel_rfl) (by kernel_rfl) (fun _ _ _ h => h) (Or.inl ⟨by kernel_rfl, fun w' _ => by go_simp⟩) hS ?_
    refine wpAnyH_take (i := 8) (v := .slice (some ⟨gi, oi, none⟩) s.il.length r.inn.c) rfl (by kernel_rfl) (by kernel_rfl) (by kernel_rfl) (fun _ _ _ h => h) (Or.inl ⟨by kernel_rfl, fun w' hS' => by have q : w'.cell? ⟨x, 17, none⟩ = some (.slice (some ⟨gi, oi, none⟩) s.il.length r.inn.c) := (hS'.1.cell 17).trans (by rw [← HE.out.2.2]; rfl); go_simp⟩) hS ?_
    refine wpAnyH_take (i := 9) (v := .int .i64 ((k : Int) + 2)) rfl (by kernel_rfl) (by kernel_rfl) (by kernel_rfl) (fun _ _ _ h => h) (Or.inl ⟨by kernel_rfl, fun w' _ => by go_simp⟩) hS ?_
    refine wpAnyH_take (i := 10) (v := .int .i64 (k : Int)) rfl (by kernel_rfl) (by kernel_rfl) (by kernel_rfl) (fun _ _ _ h => h) (Or.inl ⟨by kernel_rfl, fun w' _ => by go_simp⟩) hS ?_
    refine wpAnyH_take (i := 11) (v := .pointer (some ⟨gi, oi + k, none⟩)) rfl (by kernel_rfl) (by kernel_rfl) (by kernel_rfl) (fun _ _ _ h => h) (Or.inl ⟨by kernel_rfl, fun w' _ => by go_simp⟩) hS ?_
    refine wpAnyH_take (i := 12) (v := .int .i64 v) rfl (by kernel_rfl) (by kernel_rfl) (by kernel_rfl) (fun _ _ _ h => h) (Or.inl ⟨by kernel_rfl, fun w' hS' => by have q := hS'.2; go_simp⟩) hS ?_
    refine wpAnyH_ready (rs := [13]) (by kernel_rfl) (by simp) ?_
    refine AllReadyH.cons rfl (fun K hK => ?_) AllReadyH.nil
    go_simp
    go_at_call 72
    refine (HPUT.out _ (HB1.out.go (Below.refl _ w1).drew).bel).mono ?_
    rintro e w2 ⟨g, cap, rfl, hb2, hnew⟩
    have HB2 := Lib.hid ((HB1.out.go (Below.refl _ w1).drew).go hb2)
    have hx2 := HB2.out.hx
    have hyl : y < w1.drew.heap.size := by obtain ⟨_, _, hy⟩ := (HB1.out.go (Below.refl _ w1).drew).hy; exact hy.lt
    have hlt2 : gi < w1.drew.heap.size := Nat.lt_of_lt_of_le hgl (HB1.out.go (Below.refl _ w1).drew).bel.size
    have e2 : w2.cell? ⟨gi, oi + k, none⟩ = some (.int .i64 v) := (hb2.cell (p := ⟨gi, oi + k, none⟩) hlt2).trans k_e
    obtain ⟨zs, hz, hy⟩ := HB2.out.hy
    have HY := Lib.hid (And.intro hz hy)
    have HNEW := Lib.hid hnew
    have HXP := Lib.hid (show ∀ g, newX (fun _ => False) w1.drew w2 g → newX X w w2 g from fun g e => e.elim (fun e => e.elim) (fun e => .inr ⟨Nat.le_trans (HB1.out.go (Below.refl _ w1).drew).bel.size e.1, e.2⟩))
    clear hz hy hnew HPUT
    unfold RF.v
    refine hK.out _ _ ⟨hx2, e2⟩ fun hS2 => ?_
    clear hK hS
    refine wpAnyH_ready (rs := [14]) (by kernel_rfl) (by simp) ?_
    refine AllReadyH.cons rfl (fun K hK => ?_) AllReadyH.nil
    rw [if_pos (by kernel_rfl)]
    refine wp_store_row 46 _ _ rfl y _ rfl rfl 46 zs HY.out.2 rinfo HY.out.1 (RF.ones (RF.setd ({ r with ma := (k : Int) + 2 + 1 } : RF) ⟨some ⟨g, 0, none⟩, (s.row (2 * s.ip + s.iq)).length, cap⟩ (2 * s.ip + s.iq))) ?_
    refine hK.out _ _ ⟨hS2.1.of (setRow_other _ _ _ _ HB2.out.ne), by rw [cell_setRow_other _ _ _ _ hgy]; exact hS2.2⟩ fun hS3 => ?_
    clear hK hS2
    refine wpAnyH_take (i := 15) (v := .bool false) rfl (by kernel_rfl) (by kernel_rfl) (by kernel_rfl) (fun _ _ _ h => h) (Or.inl ⟨by kernel_rfl, fun w' _ => by go_simp⟩) hS3 ?_
    refine wpAnyH_done (by kernel_rfl) ?_ _
    go_simp
    go_wp2
    have hbf := below_setRow HB2.out.bel HB2.out.gy (RF.setd ({ r with ma := (k : Int) + 2 + 1 } : RF) ⟨some ⟨g, 0, none⟩, (s.row (2 * s.ip + s.iq)).length, cap⟩ (2 * s.ip + s.iq)).cells
    have hfin : IntsX (w2.setRow y (RF.setd ({ r with ma := (k : Int) + 2 + 1 } : RF) ⟨some ⟨g, 0, none⟩, (s.row (2 * s.ip + s.iq)).length, cap⟩ (2 * s.ip + s.iq)).cells) (newX X w (w2.setRow y (RF.setd ({ r with ma := (k : Int) + 2 + 1 } : RF) ⟨some ⟨g, 0, none⟩, (s.row (2 * s.ip + s.iq)).length, cap⟩ (2 * s.ip + s.iq)).cells)) (.slice (some ⟨g, 0, none⟩) (s.row (2 * s.ip + s.iq)).length cap) ((s.row (2 * s.ip + s.iq)).set k v) := (HNEW.out.keep (fun q hq => setRow_other _ _ _ _ (by rcases hq with e | e; exact e.elim; omega))).mono (fun q hq => (HXP.out q hq).imp id (fun e => ⟨e.1, by simpa using e.2⟩))
    (try simp only [Exit.inBlock, Exit.then])
    refine bodyPost_ret (res_c2 rfl _ rfl (show Blk (w2.setRow y (RF.setd ({ r with ma := (k : Int) + 2 + 1 } : RF) ⟨some ⟨g, 0, none⟩, (s.row (2 * s.ip + s.iq)).length, cap⟩ (2 * s.ip + s.iq)).cells) y 46 (RF.setd ({ r with ma := (k : Int) + 2 + 1 } : RF) ⟨some ⟨g, 0, none⟩, (s.row (2 * s.ip + s.iq)).length, cap⟩ (2 * s.ip + s.iq)).cells from setRow_heap _ _ zs _ 46 (0, 0) HY.out.2) Tryd.underlying46 rfl rinfo) rfl ?_
    exact ⟨(RF.setd ({ r with ma := (k : Int) + 2 + 1 } : RF) ⟨some ⟨g, 0, none⟩, (s.row (2 * s.ip + s.iq)).length, cap⟩ (2 * s.ip + s.iq)), rfl, hbf, refin_w3 (HR.out _ hbf) HK.out.1 HK.out.2.1 HK.out.2.2.1 ((k : Int) + 2 + 1) v (by have := HK.out.2.2.2; have := HK.out.2.2.1; omega) ⟨some ⟨g, 0, none⟩, (s.row (2 * s.ip + s.iq)).length, cap⟩ (by rw [← HK.out.2.2.2]; exact hfin)⟩
end Go.Proofs.YtmcelldklmjlkaaDoor
