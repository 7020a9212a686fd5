/- The reference's register: the reader's access of a word. -/
import Derived.Test.YtmcelldklmjlkaaDoorFrefA
import Derived.Deep.CutBlock
import Derived.Deep.RegionHeld3
import Derived.Deep.MidRow
namespace Go.Proofs.YtmcelldklmjlkaaDoor
open Go.RowKit

set_option maxRecDepth 100000 in
set_option maxHeartbeats 6400000 in
theorem refr5 {w : World} {X : Nat → Prop} {r : RF} {s : FS} (h : RefIn w X r s) (hk : s.ok) (he : s.ow = 1) :
    Calls Tryd.prog 67 #[r.v] w fun e w' => ∃ r', e = .returned (.tuple #[RF.v r', .bool (decide (s.ow = 1))]) ∧ Below w.heap.size w w' ∧ RefIn w' (newX X w w') r' { s.accR with ow := s.ow - 1 } ∧ r'.out.n = (s.accR.ol).length ∧ IntsX w' (newX X w w') r'.out.v s.accR.ol := by
  have hW6 := hk.w6
  have hW1 := hk.w1
  have hop := hk.op
  have hoq := hk.oq
  rw [show decide (s.ow = 1) = true by simp; try omega]
  obtain ⟨k, hkk⟩ : ∃ k, k = s.W - s.ow := ⟨_, rfl⟩
  obtain ⟨val, hval⟩ : ∃ val, val = s.mem[s.ridx (s.W - s.ow)]?.getD 0 := ⟨_, rfl⟩
  rw [show s.accR = { s with ol := s.ol ++ [val] } by unfold FS.accR; rw [if_neg (by omega), if_neg (by omega), if_neg (by omega), hval]]
  have hse : r.se = (k : Int) + 3 := by rw [h.se (by omega)]; omega
  have hol : s.ol.length = k := by rw [hk.ol (by omega)]; omega
  have hle := row_len hk (2 * s.op + s.oq) (by omega)
  have hrv : (s.row (2 * s.op + s.oq))[k]? = some val := by
    have hri := row_in hk (2 * s.op + s.oq) (by omega)
    rw [row_at _ _ _ (by omega), hval, ← hkk]
    unfold FS.ridx
    rw [List.getElem?_eq_getElem (by omega)]
    rfl
  obtain ⟨Ad, cd, gd, od, hdv, hdA, hdc⟩ : ∃ Ad cd g o, (r.d (2 * s.op + s.oq)).v = .slice Ad (s.row (2 * s.op + s.oq)).length cd ∧ Ad = some ⟨g, o, none⟩ ∧ w.cell? ⟨g, o + k, none⟩ = some (.int .i64 val) := by
    obtain ⟨A', c', e, -, hc⟩ := (h.d (2 * s.op + s.oq) (by omega)).ints
    obtain ⟨g, o, rfl, hcell⟩ := hc (by omega)
    refine ⟨_, c', g, o, e, rfl, ?_⟩
    rw [hcell k (by omega)]
    rw [List.getElem?_eq_getElem (by omega)] at hrv
    rw [Option.some.inj hrv]
  subst hdA
  have HOL := Lib.hid (show ∀ w', Below w.heap.size w w' → IntsIn w' r.out.v s.ol from fun w' hb => ((h.ol (by omega)).below hb).ints)
  obtain ⟨Ao, co, hout, hnil⟩ : ∃ A c, r.out = ⟨A, s.ol.length, c⟩ ∧ (s.ol = [] → A = none ∧ c = 0) := by
    obtain ⟨A, c, e, -⟩ := (h.ol (by omega)).form
    have e' : Value.slice r.out.A r.out.n r.out.c = .slice A s.ol.length c := e
    injection e' with e1 e2 e3
    refine ⟨A, c, by cases hro : r.out; simp_all, fun hz => ?_⟩
    have := h.on (by omega) hz
    rw [this] at e1 e3
    exact ⟨e1.symm, e3.symm⟩
  have HOF := Lib.hid (And.intro hout hnil)
  have b1 : (s.op : Int) < 2 := by omega
  have b2 : (0 : Int) ≤ (s.op : Int) := by omega
  have b3 : (s.oq : Int) < 2 := by omega
  have b4 : (0 : Int) ≤ (s.oq : Int) := by omega
  have b7 : (k : Int) < ((s.row (2 * s.op + s.oq)).length : Int) := by omega
  have b8 : (0 : Int) ≤ (k : Int) := by omega
  have t0 : ((k : Int) + 3 == 0) = false := by simp; omega
  have t1 : ((k : Int) + 3 == 1) = false := by simp; omega
  have t2 : ((k : Int) + 3 == 2) = false := by simp; omega
  have t3 : ¬ ((k : Int) + 3 < 2 + (s.W : Int)) := by omega
  have k6 : k ≤ 6 := by omega
  have hol6 : s.ol.length ≤ 6 := by omega
  have HE := Lib.hid he
  have HKK := Lib.hid (And.intro hk (And.intro hkk (And.intro hW1 hol)))
  have hW := h.W
  have hOw := h.own
  have hAz := h.az
  have hp : r.rd = true := h.rdt (by omega)
  unfold RF.v
  go_enter Tryd.func67, Tryd.ntmps67
  go_upto_region 0 with (fail)
  go_cut [1, 2, 3] (fun p0 p1 p2 wx => ∃ x y, p0 = .pointer (some ⟨x, 0, none⟩) ∧ p1 = .pointer (some ⟨y, 0, none⟩) ∧ p2 = .bool false ∧ Boxed 46 w wx x y r.cells)
  case first =>
    go_wp2_with fail
    go_meet
    exact ⟨_, _, rfl, rfl, rfl, boxed_new _ _ _ _ rfl⟩
  case rest =>
    obtain ⟨x, y, rfl, rfl, rfl, hB⟩ := hcut
    have HR := Lib.hid (show ∀ w', Below w.heap.size w w' → RefIn w' (newX X w w') r s from fun w' hb => h.go hb)
    have k_se : wc.cell? ⟨x, 12, none⟩ = some (.int .i64 r.se) := (hB.hx.cell 12).trans rfl
    rw [hse] at k_se
    have f_se := hB.hx.fr 12
    have HB1 := Lib.hid (show Boxed 46 w (wc.setCell ⟨x, 12, none⟩ (.int .i64 ((k : Int) + 3 + 1))) x y ({ r with se := (k : Int) + 3 + 1 } : RF).cells from hB.set 12 (.int .i64 ((k : Int) + 3 + 1)))
    have HIC := Lib.hid hdc
    have HQ := Lib.hid (And.intro hOw (And.intro hAz hW))
    have HDV := Lib.hid hdv
    obtain ⟨l, hre⟩ : ∃ l, l = s.row (2 * s.op + s.oq) := ⟨_, rfl⟩
    rw [← hre] at b7 HDV
    have k_out : (wc.setCell ⟨x, 12, none⟩ (.int .i64 ((k : Int) + 3 + 1))).cell? ⟨x, 18, none⟩ = some (.slice Ao s.ol.length co) := (HB1.out.hx.cell 18).trans (by show some r.out.v = _; rw [hout]; rfl)
    clear h hp hse hW hOw hAz hdv hk hkk hol hval hB hdc hrv hle hre hout
    have hsz : (wc.setCell ⟨x, 12, none⟩ (.int .i64 ((k : Int) + 3 + 1))).heap.size = wc.heap.size := by simp [World.setCell]
    obtain ⟨wO, B0, hB0, hBe, hwO⟩ : ∃ (wO : World) (B0 : Nat), B0 ≤ wc.heap.size ∧ wc.heap.size ≤ B0 ∧ wO.heap.size = B0 := ⟨wc, wc.heap.size, Nat.le_refl _, Nat.le_refl _, rfl⟩
    have hxB : x < B0 := by have := HB1.out.hx.lt; omega
    have hyB : y < B0 := by obtain ⟨zs, _, hy⟩ := HB1.out.hy; have := hy.lt; omega
    have hwB : w.heap.size ≤ B0 := by have := HB1.out.bel.size; omega
    go_upto_region 13 with (fail)
    go_cut [5] (fun v wx => wx.ownsRow B0 3 1 v s.ol.length (nums s.ol) ∧ Boxed 46 w wx x y ({ r with se := (k : Int) + 3 + 1 } : RF).cells ∧ B0 ≤ wx.heap.size)
    case first =>
      by_cases hz : s.ol = []
      · obtain ⟨rfl, rfl⟩ := hnil hz
        have hlz : s.ol.length = 0 := by rw [hz]; rfl
        have k_out' := k_out
        rw [hlz] at k_out'
        have HZ := Lib.hid hz
        clear hz hlz k_out hnil
        have k_out2 : (wc.setCell ⟨x, 12, none⟩ (.int .i64 ((k : Int) + 3 + 1))).cell? ⟨x, 18, none⟩ = some (.slice none 0 0) := k_out'
        clear k_out'
        go_wp2_with (at_builtin; go_loud (refine app_none rfl _ _ rfl rfl rfl ?_))
        go_wp2_with fail
        go_meet
        exact ⟨by rw [HZ.out]; exact World.ownsRow_nil _ _ _ _, HB1.out, by omega⟩
      · have hl0 : 0 < s.ol.length := List.length_pos_iff.2 hz
        have HI := HOL.out _ HB1.out.bel
        rw [HOF.out.1] at HI
        go_wp2_with (at_builtin; go_loud (refine app_copy rfl _ _ rfl s.ol rfl _ rfl HI hl0 (by omega) ?_))
        intro v' w2 ho hb
        have hB2 := Lib.hid (HB1.out.go (by rw [hsz]; exact hb))
        have HO := Lib.hid ho
        have HS := Lib.hid (show B0 ≤ w2.heap.size by have := hb.size; omega)
        clear ho hb HI HB1
        go_wp2_with fail
        go_meet
        exact ⟨ownsRow_mono HO.out (by omega), hB2.out, HS.out⟩
    case rest =>
      obtain ⟨ho, hB2, hS0⟩ := hcut
      obtain ⟨Av, cv, rfl⟩ := own_form ho
      have k_op : wc.cell? ⟨x, 14, none⟩ = some (.int .i64 (s.op : Int)) := (hB2.hx.cell 14).trans (by rw [← HQ.out.1]; rfl)
      have k_az : wc.cell? ⟨x, 16, none⟩ = some (.int .i64 (s.oq : Int)) := (hB2.hx.cell 16).trans (by rw [← HQ.out.2.1]; rfl)
      have k_W : wc.cell? ⟨x, 0, none⟩ = some (.int .i64 (s.W : Int)) := (hB2.hx.cell 0).trans (by rw [← HQ.out.2.2]; rfl)
      have k_d : wc.cell? ⟨x, 5 + s.op * 2 + s.oq, none⟩ = some (.slice (some ⟨gd, od, none⟩) l.length cd) := (hB2.hx.cell _).trans (by rw [show 5 + s.op * 2 + s.oq = 5 + (2 * s.op + s.oq) by omega, RF.cd _ _ (by omega), ← HDV.out]; rcases (show 2 * s.op + s.oq = 0 ∨ 2 * s.op + s.oq = 1 ∨ 2 * s.op + s.oq = 2 ∨ 2 * s.op + s.oq = 3 by omega) with q | q | q | q <;> rw [q] <;> rfl)
      have k_e : wc.cell? ⟨gd, od + k, none⟩ = some (.int .i64 val) := (hB2.bel.cell (p := ⟨gd, od + k, none⟩) (World.block_lt_of_cell? _ _ HIC.out)).trans HIC.out
      have k18 : wc.cell? ⟨x, 18, none⟩ = some (.slice Ao s.ol.length co) := (hB2.hx.cell 18).trans (by show some r.out.v = _; rw [HOF.out.1]; rfl)
      have hgd : gd < w.heap.size := World.block_lt_of_cell? _ _ HIC.out
      have hwk : IntKind.i64.wrap (k : Int) = (k : Int) := by rw [IntKind.wrap_i64]; omega
      have HB2 := Lib.hid hB2
      have HO := Lib.hid ho
      clear HB1 k_out HOL ho hB2 k_se f_se hnil
      go_wp2_with fail
      have hsd : wc.drew.heap.size = wc.heap.size := rfl
      have g_op : wc.drew.cell? ⟨x, 14, none⟩ = some (.int .i64 (s.op : Int)) := k_op
      have g_az : wc.drew.cell? ⟨x, 16, none⟩ = some (.int .i64 (s.oq : Int)) := k_az
      have g_d : wc.drew.cell? ⟨x, 5 + s.op * 2 + s.oq, none⟩ = some (.slice (some ⟨gd, od, none⟩) l.length cd) := k_d
      have g_e : wc.drew.cell? ⟨gd, od + k, none⟩ = some (.int .i64 val) := k_e
      refine wp_region_held_drew (S := fun w' => w'.cell? ⟨x, 14, none⟩ = some (.int .i64 (s.op : Int)) ∧ w'.cell? ⟨x, 16, none⟩ = some (.int .i64 (s.oq : Int)) ∧ w'.cell? ⟨x, 5 + s.op * 2 + s.oq, none⟩ = some (.slice (some ⟨gd, od, none⟩) l.length cd) ∧ w'.cell? ⟨gd, od + k, none⟩ = some (.int .i64 val)) rfl ⟨g_op, g_az, g_d, g_e⟩ fun hS => ?_
      refine wpAnyH_take (i := 0) (v := .slice Av s.ol.length cv) rfl (by kernel_rfl) (by kernel_rfl) (by kernel_rfl) (fun _ _ _ h => h) (Or.inl ⟨by kernel_rfl, fun w' _ => by go_simp⟩) hS ?_
      refine wpAnyH_take (i := 1) (v := .pointer (some ⟨x, 14, none⟩)) rfl (by kernel_rfl) (by kernel_rfl) (by kernel_rfl) (fun _ _ _ h => h) (Or.inl ⟨by kernel_rfl, fun w' _ => by go_simp⟩) hS ?_
      refine wpAnyH_take (i := 2) (v := .int .i64 (s.op : Int)) rfl (by kernel_rfl) (by kernel_rfl) (by kernel_rfl) (fun _ _ _ h => h) (Or.inl ⟨by kernel_rfl, fun w' hS' => by have q := hS'.1; go_simp⟩) hS ?_
      refine wpAnyH_take (i := 3) (v := .pointer (some ⟨x, 16, none⟩)) rfl (by kernel_rfl) (by kernel_rfl) (by kernel_rfl) (fun _ _ _ h => h) (Or.inl ⟨by kernel_rfl, fun w' _ => by go_simp⟩) hS ?_
      refine wpAnyH_take (i := 4) (v := .int .i64 (s.oq : Int)) rfl (by kernel_rfl) (by kernel_rfl) (by kernel_rfl) (fun _ _ _ h => h) (Or.inl ⟨by kernel_rfl, fun w' hS' => by have q := hS'.2.1; go_simp⟩) hS ?_
      refine wpAnyH_take (i := 5) (v := .pointer (some ⟨x, 5, none⟩)) rfl (by kernel_rfl) (by kernel_rfl) (by kernel_rfl) (fun _ _ _ h => h) (Or.inl ⟨by kernel_rfl, fun w' _ => by go_simp⟩) hS ?_
      refine wpAnyH_take (i := 6) (v := .pointer (some ⟨x, 5 + s.op * 2, none⟩)) rfl (by kernel_rfl) (by kernel_rfl) (by kernel_rfl) (fun _ _ _ h => h) (Or.inl ⟨by kernel_rfl, fun w' _ => by go_simp⟩) hS ?_
      refine wpAnyH_take (i := 7) (v := .pointer (some ⟨x, 5 + s.op * 2 + s.oq, none⟩)) rfl (by kernel_rfl) (by kernel_rfl) (by kernel_rfl) (fun _ _ _ h => h) (Or.inl ⟨by kernel_rfl, fun w' _ => by go_simp⟩) hS ?_
      refine wpAnyH_take (i := 8) (v := .slice (some ⟨gd, od, none⟩) l.length cd) rfl (by kernel_rfl) (by kernel_rfl) (by kernel_rfl) (fun _ _ _ h => h) (Or.inl ⟨by kernel_rfl, fun w' hS' => by have q := hS'.2.2.1; go_simp⟩) hS ?_
      refine wpAnyH_take (i := 9) (v := .int .i64 ((k : Int) + 3)) rfl (by kernel_rfl) (by kernel_rfl) (by kernel_rfl) (fun _ _ _ h => h) (Or.inl ⟨by kernel_rfl, fun w' _ => by go_simp⟩) hS ?_
      refine wpAnyH_take (i := 10) (v := .int .i64 (k : Int)) rfl (by kernel_rfl) (by kernel_rfl) (by kernel_rfl) (fun _ _ _ h => h) (Or.inl ⟨by kernel_rfl, fun w' _ => by go_simp⟩) hS ?_
      refine wpAnyH_take (i := 11) (v := .pointer (some ⟨gd, od + k, none⟩)) rfl (by kernel_rfl) (by kernel_rfl) (by kernel_rfl) (fun _ _ _ h => h) (Or.inl ⟨by kernel_rfl, fun w' _ => by go_simp⟩) hS ?_
      refine wpAnyH_take (i := 12) (v := .int .i64 val) rfl (by kernel_rfl) (by kernel_rfl) (by kernel_rfl) (fun _ _ _ h => h) (Or.inl ⟨by kernel_rfl, fun w' hS' => by have q := hS'.2.2.2; go_simp⟩) hS ?_
      refine wpAnyH_ready (rs := [13]) (by kernel_rfl) (by simp) ?_
      refine AllReadyH.cons rfl (fun K hK => ?_) AllReadyH.nil
      go_simp
      have hS3 : (wc.drew.alloc (.cells #[.int .i64 val] 3)).cell? ⟨x, 14, none⟩ = some (.int .i64 (s.op : Int)) ∧ (wc.drew.alloc (.cells #[.int .i64 val] 3)).cell? ⟨x, 16, none⟩ = some (.int .i64 (s.oq : Int)) ∧ (wc.drew.alloc (.cells #[.int .i64 val] 3)).cell? ⟨x, 5 + s.op * 2 + s.oq, none⟩ = some (.slice (some ⟨gd, od, none⟩) l.length cd) ∧ (wc.drew.alloc (.cells #[.int .i64 val] 3)).cell? ⟨gd, od + k, none⟩ = some (.int .i64 val) :=
        ⟨(World.cell?_alloc_some _ _ _ (by rw [g_op]; rfl)).trans g_op, (World.cell?_alloc_some _ _ _ (by rw [g_az]; rfl)).trans g_az, (World.cell?_alloc_some _ _ _ (by rw [g_d]; rfl)).trans g_d, (World.cell?_alloc_some _ _ _ (by rw [g_e]; rfl)).trans g_e⟩
      refine hK.out _ _ hS3 fun hS4 => ?_
      clear hK
      refine wpAnyH_ready (rs := [14]) (by kernel_rfl) (by simp) ?_
      refine AllReadyH.cons rfl (fun K hK => ?_) AllReadyH.nil
      rw [if_pos (by kernel_rfl)]
      refine wp_app_one (W := wc.drew) _ _ 29 rfl B0 3 (.int .i64 0) 1 8 Tryd.underlying29 infoInt rfl (by decide) (.slice Av s.ol.length cv) s.ol.length (nums s.ol) rfl (show wc.drew.ownsRow B0 3 1 (.slice Av s.ol.length cv) s.ol.length (nums s.ol) from HO.out) #[.int .i64 val] rfl rfl ?_ ?_ ?_ ?_ ?_
      · simp [Value.oneCell']
      · omega
      · omega
      · exact hS0
      intro v' w3 hown' hbel'
      obtain ⟨A', c', rfl⟩ := own_form hown'
      have hbel2 : Below B0 wc w3 := ((Below.refl B0 wc).drew.trans (below_alloc (w := wc.drew) hS0 (.cells #[.int .i64 val] 3))).trans hbel'
      have HB3 := Lib.hid (HB2.out.low hbel2 hxB hyB hwB)
      have c14 : w3.cell? ⟨x, 14, none⟩ = some (.int .i64 (s.op : Int)) := (hbel2.cell (p := ⟨x, 14, none⟩) hxB).trans k_op
      have c16 : w3.cell? ⟨x, 16, none⟩ = some (.int .i64 (s.oq : Int)) := (hbel2.cell (p := ⟨x, 16, none⟩) hxB).trans k_az
      have cd' : w3.cell? ⟨x, 5 + s.op * 2 + s.oq, none⟩ = some (.slice (some ⟨gd, od, none⟩) l.length cd) := (hbel2.cell (p := ⟨x, 5 + s.op * 2 + s.oq, none⟩) hxB).trans k_d
      have ce : w3.cell? ⟨gd, od + k, none⟩ = some (.int .i64 val) := (hbel2.cell (p := ⟨gd, od + k, none⟩) (by show gd < B0; omega)).trans k_e
      refine hK.out _ _ ⟨c14, c16, cd', ce⟩ fun hS5 => ?_
      clear hK hS hS3 hS4
      have k3 : w3.cell? ⟨x, 18, none⟩ = some (.slice Ao s.ol.length co) := (hbel2.cell (p := ⟨x, 18, none⟩) hxB).trans k18
      have f3 := HB3.out.hx.fr 18
      have HB4 := Lib.hid (show Boxed 46 w (w3.setCell ⟨x, 18, none⟩ (.slice A' (s.ol.length + 1) c')) x y ({ r with se := (k : Int) + 3 + 1, out := ⟨A', s.ol.length + 1, c'⟩ } : RF).cells from HB3.out.set 18 (.slice A' (s.ol.length + 1) c'))
      have hgx : gd ≠ x := by have := HB3.out.gx; omega
      refine wpAnyH_take (i := 15) (v := .pointer (some ⟨x, 18, none⟩)) rfl (by kernel_rfl) (by kernel_rfl) (by kernel_rfl) (fun _ _ _ h => h) (Or.inl ⟨by kernel_rfl, fun w' _ => by go_simp⟩) hS5 ?_
      refine wpAnyH_ready (rs := [16]) (by kernel_rfl) (by simp) ?_
      refine AllReadyH.cons rfl (fun K hK => ?_) AllReadyH.nil
      go_simp
      have e14 : (w3.setCell ⟨x, 18, none⟩ (.slice A' (s.ol.length + 1) c')).cell? ⟨x, 14, none⟩ = some (.int .i64 (s.op : Int)) := (cell_off (by decide)).trans c14
      have e16 : (w3.setCell ⟨x, 18, none⟩ (.slice A' (s.ol.length + 1) c')).cell? ⟨x, 16, none⟩ = some (.int .i64 (s.oq : Int)) := (cell_off (by decide)).trans c16
      have ed : (w3.setCell ⟨x, 18, none⟩ (.slice A' (s.ol.length + 1) c')).cell? ⟨x, 5 + s.op * 2 + s.oq, none⟩ = some (.slice (some ⟨gd, od, none⟩) l.length cd) := (cell_off (by omega)).trans cd'
      have ee : (w3.setCell ⟨x, 18, none⟩ (.slice A' (s.ol.length + 1) c')).cell? ⟨gd, od + k, none⟩ = some (.int .i64 val) := (cell_far (Ne.symm hgx)).trans ce
      refine hK.out _ _ ⟨e14, e16, ed, ee⟩ fun hS6 => ?_
      clear hK hS5 hS6 c14 c16 cd' ce e14 e16 ed ee g_op g_az g_d g_e k_op k_az k_d k_e k18 k3 f3
      refine wpAnyH_done (by kernel_rfl) ?_ _
      have k4W : (w3.setCell ⟨x, 18, none⟩ (.slice A' (s.ol.length + 1) c')).cell? ⟨x, 0, none⟩ = some (.int .i64 (s.W : Int)) := (HB4.out.hx.cell 0).trans (by rw [← HQ.out.2.2]; rfl)
      have k4r : (w3.setCell ⟨x, 18, none⟩ (.slice A' (s.ol.length + 1) c')).cell? ⟨x, 10, none⟩ = some (.bool r.rd) := (HB4.out.hx.cell 10).trans rfl
      have f4r := HB4.out.hx.fr 10
      have HB6 := Lib.hid (show Boxed 46 w ((w3.setCell ⟨x, 18, none⟩ (.slice A' (s.ol.length + 1) c')).setCell ⟨x, 10, none⟩ (.bool false)) x y ({ r with se := (k : Int) + 3 + 1, out := ⟨A', s.ol.length + 1, c'⟩, rd := false } : RF).cells from HB4.out.set 10 (.bool false))
      obtain ⟨zs, hz, hy⟩ := HB6.out.hy
      have HY := Lib.hid (And.intro hz hy)
      have HNEW := Lib.hid (show IntsX (((w3.setCell ⟨x, 18, none⟩ (.slice A' (s.ol.length + 1) c')).setCell ⟨x, 10, none⟩ (.bool false)).setRow y ({ r with se := (k : Int) + 3 + 1, out := ⟨A', s.ol.length + 1, c'⟩, rd := false } : RF).cells) (newX X w (((w3.setCell ⟨x, 18, none⟩ (.slice A' (s.ol.length + 1) c')).setCell ⟨x, 10, none⟩ (.bool false)).setRow y ({ r with se := (k : Int) + 3 + 1, out := ⟨A', s.ol.length + 1, c'⟩, rd := false } : RF).cells)) (.slice A' (s.ol.length + 1) c') (s.ol ++ [val]) from by
        have h1 : IntsX w3 (newX (fun _ => False) wO w3) (.slice A' (s.ol.length + 1) c') (s.ol ++ [val]) := by
          have := IntsX.own (l := s.ol ++ [val]) (w := wO) (X := fun _ => False) hown' (by simp [nums]) (by omega)
          exact this
        have h2 := h1.keep (w' := ((w3.setCell ⟨x, 18, none⟩ (.slice A' (s.ol.length + 1) c')).setCell ⟨x, 10, none⟩ (.bool false)).setRow y ({ r with se := (k : Int) + 3 + 1, out := ⟨A', s.ol.length + 1, c'⟩, rd := false } : RF).cells) (fun g hg => by
          rcases hg with e | ⟨e, -⟩
          · exact e.elim
          · rw [setRow_other _ _ _ _ (by omega), Below.heap_setCell _ _ _ _ (by simp only []; omega), Below.heap_setCell _ _ _ _ (by simp only []; omega)])
        exact h2.mono (fun g hg => by
          rcases hg with e | ⟨e, e'⟩
          · exact e.elim
          · exact .inr ⟨by omega, by simpa [World.setCell] using e'⟩))
      clear hz hy hown' hbel' hbel2 HB3 HB2 HO HIC
      go_simp
      go_wp2_with (first
        | ((with_reducible change wpList _ _ _ _ _ (((w3.setCell ⟨x, 18, none⟩ (.slice A' (s.ol.length + 1) c')).setCell ⟨x, 10, none⟩ (.bool false)))); refine wpList_load_row rfl 46 _ rfl x rfl 46 _ (0, 0) _ HB6.out.hx Tryd.underlying46 rfl rinfo ?_)
        | ((with_reducible change wpList _ _ _ _ _ (((w3.setCell ⟨x, 18, none⟩ (.slice A' (s.ol.length + 1) c')).setCell ⟨x, 10, none⟩ (.bool false)))); refine wpList_store_row rfl 46 _ _ rfl y _ rfl rfl 46 zs HY.out.2 rinfo HY.out.1 (RF.ones _) ?_))
      (try simp only [Exit.inBlock, Exit.then]); refine bodyPost_ret (res_c2 rfl _ rfl HB6.out.row Tryd.underlying46 rfl rinfo) rfl ?_
      exact ⟨_, rfl, HB6.out.end_, refin_r5 (HR.out _ HB6.out.end_) HE.out _ val _, by simp, HNEW.out⟩
end Go.Proofs.YtmcelldklmjlkaaDoor
