/- The reference's register: Step, a word written. -/
import Derived.Test.YtdhbiogcaekbbaaDoorTrefA
import Derived.Deep.CutBlock
import Derived.StillTailTactics
namespace Go.Proofs.YtdhbiogcaekbbaaDoor
open Go.RowKit

set_option maxRecDepth 100000 in
set_option maxHeartbeats 3200000 in
theorem tstep2 {w : World} {X : Nat → Prop} {r : RF} {s : TS} (h : RefIn w X r s) (hf : s.fine) (h0 : s.ia ≠ 0) (hn : s.inn < s.W) :
    Calls Tryd.prog 26 #[r.v, .bool true] w fun e w' => ∃ r' A c, e = .returned (.tuple #[RF.v r', .slice A (s.step true).2.1.length c, .bool (s.step true).2.2.1, .int .i64 (s.step true).2.2.2]) ∧ Below w.heap.size w w' ∧ RefIn w' (newX X w w') r' (s.step true).1 ∧ IntsX w' (newX X w w') (.slice A (s.step true).2.1.length c) (s.step true).2.1 := by
  have h3 : s.ia = 3 := hf.ok.ia.resolve_left h0
  rw [show s.step true = ({ s with mem := s.mem.set (1 + s.io * s.W + s.inn) (s.il[s.inn]?.getD 0), inn := s.inn + 1 }, [], false, 0) by simp [TS.step, TS.stepW, h0, hn]]
  have hp : r.wr = true := by rw [h.wr]; simp [TS.busy, h0]
  have hma := h.ma h0
  have hW := h.W
  have hBa := h.Ba
  have hk := hf.ok
  have hW6 := hk.w6
  have hio := hk.io
  have hq : s.io < 3 := by omega
  have hil := (hk.il h3).1
  obtain ⟨val, hval⟩ : ∃ val, s.il[s.inn]?.getD 0 = val := ⟨_, rfl⟩
  rw [hval]
  have hle := row_len hk _ hq
  obtain ⟨Ad, cd, hdv, -⟩ := (h.d _ hq).form
  obtain ⟨Ai, ci, hiv, -⟩ := (h.il h0).form
  obtain ⟨rfl, hin, rfl⟩ : r.inn.A = Ai ∧ r.inn.n = s.il.length ∧ r.inn.c = ci := by
    have e : Value.slice r.inn.A r.inn.n r.inn.c = .slice Ai s.il.length ci := hiv
    injection e with e1 e2 e3
    exact ⟨e1, e2, e3⟩
  obtain ⟨gi, oi, hia, hic⟩ : ∃ g o, r.inn.A = some ⟨g, o, none⟩ ∧ w.cell? ⟨g, o + s.inn, none⟩ = some (.int .i64 val) := by
    obtain ⟨A', c', e, -, hc⟩ := (h.il h0).ints
    obtain ⟨g, o, rfl, hcell⟩ := hc (by omega)
    have e' : Value.slice r.inn.A r.inn.n r.inn.c = .slice (some ⟨g, o, none⟩) s.il.length c' := e
    injection e' with e1 e2 e3
    refine ⟨g, o, e1, ?_⟩
    rw [hcell s.inn (by omega), ← hval, List.getElem?_eq_getElem (by omega)]
    rfl
  have b2 : (s.inn : Int) < (s.W : Int) := by omega
  have b4 : (s.io : Int) < 3 := by omega
  have b5 : (0 : Int) ≤ (s.io : Int) := by omega
  have b6 : (s.inn : Int) < (s.il.length : Int) := by omega
  have b7 : (s.inn : Int) < ((s.row s.io).length : Int) := by omega
  have b8 : (0 : Int) ≤ (s.inn : Int) := by omega
  have HIN := Lib.hid (show ∀ w', Below w.heap.size w w' → IntsIn w' (.slice Ad (s.row s.io).length cd) (s.row s.io) from fun w' hb => by
    have := ((h.d _ hq).below hb).ints
    rw [hdv] at this
    exact this)
  have hl0 : 0 < (s.row s.io).length := by omega
  have hl65 : (s.row s.io).length ≤ 65536 := by omega
  unfold RF.v
  go_enter Tryd.func26, Tryd.ntmps26
  go_upto_region 0 with (fail)
  go_cut [2, 4, 5, 6, 7] (fun p0 p1 p2 p3 p4 wx => ∃ x y, p0 = .pointer (some ⟨x, 0, none⟩) ∧ p1 = .pointer (some ⟨y, 0, none⟩) ∧ p2 = .slice none 0 0 ∧ p3 = .bool false ∧ p4 = .int .i64 0 ∧ Boxed 50 w wx x y r.cells)
  case first =>
    go_wp2_with fail
    go_meet
    exact ⟨_, _, rfl, rfl, rfl, rfl, rfl, boxed_new _ _ _ _ rfl⟩
  case rest =>
    obtain ⟨x, y, rfl, rfl, rfl, rfl, rfl, hB⟩ := hcut
    have HR := Lib.hid (show ∀ w', Below w.heap.size w w' → RefIn w' (newX X w w') r s from fun w' hb => h.go hb)
    have HK := Lib.hid (And.intro hf hn)
    have k_wr : wc.cell? ⟨x, 7, none⟩ = some (.bool r.wr) := (hB.hx.cell 7).trans rfl
    rw [hp] at k_wr
    have k_ma : wc.cell? ⟨x, 9, none⟩ = some (.int .i64 r.ma) := (hB.hx.cell 9).trans rfl
    rw [hma] at k_ma
    have k_W : wc.cell? ⟨x, 0, none⟩ = some (.int .i64 r.W) := (hB.hx.cell 0).trans rfl
    rw [hW] at k_W
    have k_Ba : wc.cell? ⟨x, 5, none⟩ = some (.int .i64 r.Ba) := (hB.hx.cell 5).trans rfl
    rw [hBa] at k_Ba
    have k_d : wc.cell? ⟨x, 2 + s.io, none⟩ = some (.slice Ad (s.row s.io).length cd) := (hB.hx.cell _).trans (by rw [RF.cd _ _ (by omega), ← hdv])
    have HIC := Lib.hid hic
    have HP := Lib.hid (And.intro hma hBa)
    have hB1 := Lib.hid hB
    clear h hp hma hW hBa hdv hiv hk hn hil hval hB hle hic hf h3
    obtain ⟨q, hqe⟩ : ∃ q, q = s.io := ⟨_, rfl⟩
    obtain ⟨l, hre⟩ : ∃ l, l = s.row s.io := ⟨_, rfl⟩
    rw [← hre] at k_d hl0 hl65 b7 HIN
    rw [← hqe] at k_Ba k_d b4 b5 hq HP
    have HQE := Lib.hid (And.intro hqe hre)
    clear hqe hre hio
    go_wp2_with (at_builtin; go_loud (refine app_copy rfl _ _ rfl l rfl _ rfl (HIN.out _ hB1.out.bel) hl0 hl65 ?_))
    intro v' w2 ho hb
    have hB2 := Lib.hid (hB1.out.go hb)
    obtain ⟨g, cap, rfl, hg, hglt, hcap, hcell, hfr⟩ := own_pos ho hl0
    have hgx : g ≠ x := by have := hB1.out.hx.lt; omega
    have hgy : g ≠ y := by obtain ⟨zs, _, hy⟩ := hB1.out.hy; have := hy.lt; omega
    have hgw : w.heap.size ≤ g := by have := hB1.out.bel.size; omega
    have k_in : w2.cell? ⟨x, 12, none⟩ = some (.slice (some ⟨gi, oi, none⟩) s.il.length r.inn.c) := (hB2.out.hx.cell 12).trans (by rw [← hia, ← hin]; rfl)
    have k_v : w2.cell? ⟨gi, oi + s.inn, none⟩ = some (.int .i64 val) := (hB2.out.bel.cell (p := ⟨gi, oi + s.inn, none⟩) (World.block_lt_of_cell? _ _ HIC.out)).trans HIC.out
    have k2_ma : w2.cell? ⟨x, 9, none⟩ = some (.int .i64 (s.inn : Int)) := (hB2.out.hx.cell 9).trans (by rw [← HP.out.1]; rfl)
    obtain ⟨z0, hz0⟩ : ∃ z0, w2.cell? ⟨g, s.inn, none⟩ = some z0 := by
      have := hcell s.inn (by omega)
      exact ⟨_, this.trans (nums_get l s.inn (by omega))⟩
    have f_v : w2.frozen? ⟨g, s.inn, none⟩ = false := hfr s.inn
    have hB3 := Lib.hid (hB2.out.far s.inn (.int .i64 val) hgx hgy hgw)
    have k3_Ba : (w2.setCell ⟨g, s.inn, none⟩ (.int .i64 val)).cell? ⟨x, 5, none⟩ = some (.int .i64 (q : Int)) := (hB3.out.hx.cell 5).trans (by rw [← HP.out.2]; rfl)
    have k3_d : (w2.setCell ⟨g, s.inn, none⟩ (.int .i64 val)).cell? ⟨x, 2 + q, none⟩ = some (r.d q).v := (hB3.out.hx.cell _).trans (RF.cd _ _ (by omega))
    have f3_d := hB3.out.hx.fr (2 + q)
    have hB4 := hB3.out.set (2 + q) (Sl.v ⟨some ⟨g, 0, none⟩, l.length, cap⟩)
    rw [RF.cset _ _ _ (by omega)] at hB4
    have hsm : (r.setd ⟨some ⟨g, 0, none⟩, l.length, cap⟩ q).ma = r.ma := by
      match q, hq with
      | 0, _ => rfl
      | 1, _ => rfl
      | 2, _ => rfl
    have k4_ma : ((w2.setCell ⟨g, s.inn, none⟩ (.int .i64 val)).setCell ⟨x, 2 + q, none⟩ (.slice (some ⟨g, 0, none⟩) l.length cap)).cell? ⟨x, 9, none⟩ = some (.int .i64 (s.inn : Int)) := (hB4.hx.cell 9).trans (by rw [← HP.out.1, ← hsm]; rfl)
    have f4_ma : ((w2.setCell ⟨g, s.inn, none⟩ (.int .i64 val)).setCell ⟨x, 2 + q, none⟩ (.slice (some ⟨g, 0, none⟩) l.length cap)).frozen? ⟨x, 9, none⟩ = false := hB4.hx.fr 9
    have HB5 := Lib.hid (show Boxed 50 w ((((w2.setCell ⟨g, s.inn, none⟩ (.int .i64 val)).setCell ⟨x, 2 + q, none⟩ (.slice (some ⟨g, 0, none⟩) l.length cap)).setCell ⟨x, 9, none⟩ (.int .i64 ((s.inn : Int) + 1)))).drew x y ({ r.setd ⟨some ⟨g, 0, none⟩, l.length, cap⟩ q with ma := (s.inn : Int) + 1 } : RF).cells from (hB4.set 9 (.int .i64 ((s.inn : Int) + 1))).go (Below.refl _ _).drew)
    obtain ⟨zs, hz, hy⟩ := HB5.out.hy
    have HY := Lib.hid (And.intro hz hy)
    have hglt2 : g < w2.heap.size := hglt
    have HNEW := Lib.hid (show IntsX (((((w2.setCell ⟨g, s.inn, none⟩ (.int .i64 val)).setCell ⟨x, 2 + q, none⟩ (.slice (some ⟨g, 0, none⟩) l.length cap)).setCell ⟨x, 9, none⟩ (.int .i64 ((s.inn : Int) + 1)))).drew.setRow y ({ r.setd ⟨some ⟨g, 0, none⟩, l.length, cap⟩ q with ma := (s.inn : Int) + 1 } : RF).cells) (newX X w (((((w2.setCell ⟨g, s.inn, none⟩ (.int .i64 val)).setCell ⟨x, 2 + q, none⟩ (.slice (some ⟨g, 0, none⟩) l.length cap)).setCell ⟨x, 9, none⟩ (.int .i64 ((s.inn : Int) + 1)))).drew.setRow y ({ r.setd ⟨some ⟨g, 0, none⟩, l.length, cap⟩ q with ma := (s.inn : Int) + 1 } : RF).cells)) (Sl.v ⟨some ⟨g, 0, none⟩, l.length, cap⟩) (l.set s.inn val) from
      row_new (n := l.length) rfl (fun j hj => hcell j (by omega)) (by omega) hcap (.inr ⟨hgw, by simpa [World.setCell] using hglt2⟩) (fun j => by rw [cell_setRow_other _ _ _ _ hgy]; show (((w2.setCell ⟨g, s.inn, none⟩ (.int .i64 val)).setCell ⟨x, 2 + q, none⟩ (.slice (some ⟨g, 0, none⟩) l.length cap)).setCell ⟨x, 9, none⟩ (.int .i64 ((s.inn : Int) + 1))).cell? ⟨g, j, none⟩ = _; rw [cell_far (Ne.symm hgx), cell_far (Ne.symm hgx)]))
    clear ho hb hB2 hB3 hB4 hz hy hcell hfr hB1 k_wr k_W k_ma k_Ba k_d HIN hsm
    go_wp2_with fail
    go_still_tail 10, (by kernel_rfl)
    change wpList _ _ _ _ _ w2.drew
    clear k_in k_v k2_ma
    go_wp2_with (first
      | ((with_reducible change wpList _ _ _ _ _ ((((w2.setCell ⟨g, s.inn, none⟩ (.int .i64 val)).setCell ⟨x, 2 + q, none⟩ (.slice (some ⟨g, 0, none⟩) l.length cap)).setCell ⟨x, 9, none⟩ (.int .i64 ((s.inn : Int) + 1))).drew)); refine wpList_load_row rfl 50 _ rfl x rfl 50 _ (0, 0) _ HB5.out.hx Tryd.underlying50 rfl rinfo ?_)
      | ((with_reducible change wpList _ _ _ _ _ ((((w2.setCell ⟨g, s.inn, none⟩ (.int .i64 val)).setCell ⟨x, 2 + q, none⟩ (.slice (some ⟨g, 0, none⟩) l.length cap)).setCell ⟨x, 9, none⟩ (.int .i64 ((s.inn : Int) + 1))).drew)); refine wpList_store_row rfl 50 _ _ rfl y _ rfl rfl 50 zs HY.out.2 rinfo HY.out.1 (RF.ones _) ?_))
    (try simp only [Exit.inBlock, Exit.then]); refine bodyPost_ret (res_c4 rfl _ rfl HB5.out.row Tryd.underlying50 rfl rinfo) rfl ?_
    obtain ⟨rfl, rfl⟩ := HQE.out
    exact ⟨_, none, 0, rfl, HB5.out.end_, refin_put (HR.out _ HB5.out.end_) HK.out.1.ok HK.out.2 val _ HNEW.out _ rfl, IntsX.nil _ _⟩
end Go.Proofs.YtdhbiogcaekbbaaDoor
