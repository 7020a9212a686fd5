/- The reference's register: Step, a word read. -/
import Derived.Test.YtdhbiogcaekbbaaDoorTrefA
import Derived.Deep.CutBlock
import Derived.Deep.RegionHeld3
import Derived.Deep.MidRow
namespace Go.Proofs.YtdhbiogcaekbbaaDoor
open Go.RowKit

set_option maxRecDepth 100000 in
set_option maxHeartbeats 3200000 in
theorem tstep7 {w : World} {X : Nat → Prop} {r : RF} {s : TS} (h : RefIn w X r s) (hf : s.fine) (h3 : s.oa = 3) (hn :  s.ol.length + 1 < s.W) :
    Calls Tryd.prog 26 #[r.v, .bool false] w fun e w' => ∃ r' A c, e = .returned (.tuple #[RF.v r', .slice A (s.step false).2.1.length c, .bool (s.step false).2.2.1, .int .i64 (s.step false).2.2.2]) ∧ Below w.heap.size w w' ∧ RefIn w' (newX X w w') r' (s.step false).1 ∧ IntsX w' (newX X w w') (.slice A (s.step false).2.1.length c) (s.step false).2.1 := by
  rw [show s.step false = ({ s with ol := s.ol ++ [s.next] }, [], false, 0) by simp [TS.step, TS.stepR, h3, hn]]
  have hp : r.rd = true := by rw [h.rd]; simp [TS.busy, h3]
  have hak : r.ak = true := by rw [h.ak (by omega)]; simp [h3]
  have hfs : r.fs = false := by rw [h.fs (by omega)]; simp [h3]
  have hW := h.W
  have hFr := h.Fr
  have hk := hf.ok
  have hW6 := hk.w6
  have hq : s.oo < 3 := by have := hk.oo; omega
  have hle := row_len hk _ hq
  have hol := hk.ol h3
  obtain ⟨val, hval⟩ : ∃ val, s.next = val := ⟨_, rfl⟩
  rw [hval]
  have hrv : (s.row s.oo)[s.ol.length]? = some val := by
    have hri := row_in hk _ hq
    rw [row_at _ _ _ hol, ← hval]
    unfold TS.next
    rw [List.getElem?_eq_getElem (by omega)]
    rfl
  obtain ⟨Ad, cd, gd, od, hdv, hdA, hdc⟩ : ∃ Ad cd g o, (r.d s.oo).v = .slice Ad (s.row s.oo).length cd ∧ Ad = some ⟨g, o, none⟩ ∧ w.cell? ⟨g, o + s.ol.length, none⟩ = some (.int .i64 val) := by
    obtain ⟨A', c', e, -, hc⟩ := (h.d _ hq).ints
    obtain ⟨g, o, rfl, hcell⟩ := hc (by omega)
    refine ⟨_, c', g, o, e, rfl, ?_⟩
    rw [hcell s.ol.length (by omega)]
    rw [List.getElem?_eq_getElem (by omega)] at hrv
    rw [Option.some.inj hrv]
  subst hdA
  have HOL := Lib.hid (show ∀ w', Below w.heap.size w w' → IntsIn w' r.out.v s.ol from fun w' hb => ((h.ol (by omega)).below hb).ints)
  obtain ⟨Ao, co, hout, hnil⟩ : ∃ A c, r.out = ⟨A, s.ol.length, c⟩ ∧ (s.ol = [] → A = none ∧ c = 0) := by
    obtain ⟨A, c, e, -⟩ := (h.ol (by omega)).form
    have e' : Value.slice r.out.A r.out.n r.out.c = .slice A s.ol.length c := e
    injection e' with e1 e2 e3
    refine ⟨A, c, by cases hro : r.out; simp_all, fun hz => ?_⟩
    have := h.on (by omega) hz
    rw [this] at e1 e3
    exact ⟨e1.symm, e3.symm⟩
  have HOF := Lib.hid (And.intro hout hnil)
  have b4 : (s.oo : Int) < 3 := by omega
  have b5 : (0 : Int) ≤ (s.oo : Int) := by omega
  have b7 : (s.ol.length : Int) < ((s.row s.oo).length : Int) := by omega
  have b8 : (0 : Int) ≤ (s.ol.length : Int) := by omega
  have b9 :  ((s.ol.length : Int) + 1) < (s.W : Int) := by omega
  have b9' :  (((s.ol.length + 1 : Nat) : Int)) < (s.W : Int) := by omega
  have hol6 : s.ol.length ≤ 6 := by omega
  unfold RF.v
  go_enter Tryd.func26, Tryd.ntmps26
  go_upto_region 0 with (fail)
  go_cut [2, 4, 5, 6, 7] (fun p0 p1 p2 p3 p4 wx => ∃ x y, p0 = .pointer (some ⟨x, 0, none⟩) ∧ p1 = .pointer (some ⟨y, 0, none⟩) ∧ p2 = .slice none 0 0 ∧ p3 = .bool false ∧ p4 = .int .i64 0 ∧ Boxed 50 w wx x y r.cells)
  case first =>
    go_wp2_with fail
    go_meet
    exact ⟨_, _, rfl, rfl, rfl, rfl, rfl, boxed_new _ _ _ _ rfl⟩
  case rest =>
    obtain ⟨x, y, rfl, rfl, rfl, rfl, rfl, hB⟩ := hcut
    have HR := Lib.hid (show ∀ w', Below w.heap.size w w' → RefIn w' (newX X w w') r s from fun w' hb => h.go hb)
    have k_rd : wc.cell? ⟨x, 8, none⟩ = some (.bool r.rd) := (hB.hx.cell 8).trans rfl
    rw [hp] at k_rd
    have k_ak : wc.cell? ⟨x, 10, none⟩ = some (.bool r.ak) := (hB.hx.cell 10).trans rfl
    rw [hak] at k_ak
    have k_fs : wc.cell? ⟨x, 11, none⟩ = some (.bool r.fs) := (hB.hx.cell 11).trans rfl
    rw [hfs] at k_fs
    have HIC := Lib.hid hdc
    have HQ := Lib.hid (And.intro hFr hW)
    have HDV := Lib.hid hdv
    have HB1 := Lib.hid hB
    obtain ⟨l, hre⟩ : ∃ l, l = s.row s.oo := ⟨_, rfl⟩
    rw [← hre] at b7 HDV
    have k_out : wc.cell? ⟨x, 13, none⟩ = some (.slice Ao s.ol.length co) := (hB.hx.cell 13).trans (by rw [show RF.cells r = RF.cells { r with out := ⟨Ao, s.ol.length, co⟩ } by rw [← hout]]; rfl)
    clear h hp hak hfs hW hFr hdv hk hval hB hdc hrv hle hre hf hout
    obtain ⟨wO, B0, hB0, hBe, hwO⟩ : ∃ (wO : World) (B0 : Nat), B0 ≤ wc.heap.size ∧ wc.heap.size ≤ B0 ∧ wO.heap.size = B0 := ⟨wc, wc.heap.size, Nat.le_refl _, Nat.le_refl _, rfl⟩
    have hxB : x < B0 := by have := HB1.out.hx.lt; omega
    have hyB : y < B0 := by obtain ⟨zs, _, hy⟩ := HB1.out.hy; have := hy.lt; omega
    have hwB : w.heap.size ≤ B0 := by have := HB1.out.bel.size; omega
    go_upto_region 27 with (fail)
    go_cut [11] (fun v wx => wx.ownsRow B0 3 1 v s.ol.length (nums s.ol) ∧ Boxed 50 w wx x y r.cells ∧ B0 ≤ wx.heap.size)
    case first =>
      by_cases hz : s.ol = []
      · obtain ⟨rfl, rfl⟩ := hnil hz
        have hlz : s.ol.length = 0 := by rw [hz]; rfl
        have k_out' := k_out
        rw [hlz] at k_out'
        have HZ := Lib.hid hz
        clear hz hlz k_out hnil
        have k_out2 : wc.cell? ⟨x, 13, none⟩ = some (.slice none 0 0) := k_out'
        clear k_out'
        go_wp2_with (at_builtin; go_loud (refine app_none rfl _ _ rfl rfl rfl ?_))
        go_wp2_with fail
        go_meet
        exact ⟨by rw [HZ.out]; exact World.ownsRow_nil _ _ _ _, HB1.out, hB0⟩
      · have hl0 : 0 < s.ol.length := List.length_pos_iff.2 hz
        have HI := HOL.out _ HB1.out.bel
        rw [HOF.out.1] at HI
        go_wp2_with (at_builtin; go_loud (refine app_copy rfl _ _ rfl s.ol rfl _ rfl HI hl0 (by omega) ?_))
        intro v' w2 ho hb
        have hB2 := Lib.hid (HB1.out.go hb)
        have HO := Lib.hid ho
        have HS := Lib.hid (show B0 ≤ w2.heap.size by have := hb.size; omega)
        clear ho hb HI HB1
        go_wp2_with fail
        go_meet
        exact ⟨ownsRow_mono HO.out hB0, hB2.out, HS.out⟩
    case rest =>
      obtain ⟨ho, hB2, hS0⟩ := hcut
      obtain ⟨Av, cv, rfl⟩ := own_form ho
      have k_Fr : wc.cell? ⟨x, 6, none⟩ = some (.int .i64 (s.oo : Int)) := (hB2.hx.cell 6).trans (by rw [← HQ.out.1]; rfl)
      have k_W : wc.cell? ⟨x, 0, none⟩ = some (.int .i64 (s.W : Int)) := (hB2.hx.cell 0).trans (by rw [← HQ.out.2]; rfl)
      have k_d : wc.cell? ⟨x, 2 + s.oo, none⟩ = some (.slice (some ⟨gd, od, none⟩) l.length cd) := (hB2.hx.cell _).trans (by rw [RF.cd _ _ (by omega), ← HDV.out])
      have k_e : wc.cell? ⟨gd, od + s.ol.length, none⟩ = some (.int .i64 val) := (hB2.bel.cell (p := ⟨gd, od + s.ol.length, none⟩) (World.block_lt_of_cell? _ _ HIC.out)).trans HIC.out
      have k13 : wc.cell? ⟨x, 13, none⟩ = some (.slice Ao s.ol.length co) := (hB2.hx.cell 13).trans (by rw [show RF.cells r = RF.cells { r with out := ⟨Ao, s.ol.length, co⟩ } by rw [← HOF.out.1]]; rfl)
      have hgd : gd < w.heap.size := World.block_lt_of_cell? _ _ HIC.out
      have HB2 := Lib.hid hB2
      have HO := Lib.hid ho
      clear HB1 k_out HOL ho hB2 k_rd k_ak k_fs hnil
      go_wp2_with fail
      have hsd : wc.drew.heap.size = wc.heap.size := rfl
      have g_Fr : wc.drew.cell? ⟨x, 6, none⟩ = some (.int .i64 (s.oo : Int)) := k_Fr
      have g_d : wc.drew.cell? ⟨x, 2 + s.oo, none⟩ = some (.slice (some ⟨gd, od, none⟩) l.length cd) := k_d
      have g_e : wc.drew.cell? ⟨gd, od + s.ol.length, none⟩ = some (.int .i64 val) := k_e
      refine wp_region_held_drew (S := fun w' => w'.cell? ⟨x, 6, none⟩ = some (.int .i64 (s.oo : Int)) ∧ w'.cell? ⟨x, 2 + s.oo, none⟩ = some (.slice (some ⟨gd, od, none⟩) l.length cd) ∧ w'.cell? ⟨gd, od + s.ol.length, none⟩ = some (.int .i64 val)) rfl ⟨g_Fr, g_d, g_e⟩ fun hS => ?_
      refine wpAnyH_take (i := 0) (v := .slice Av s.ol.length cv) rfl (by kernel_rfl) (by kernel_rfl) (by kernel_rfl) (fun _ _ _ h => h) (Or.inl ⟨by kernel_rfl, fun w' _ => by go_simp⟩) hS ?_
      refine wpAnyH_take (i := 1) (v := .pointer (some ⟨x, 6, none⟩)) rfl (by kernel_rfl) (by kernel_rfl) (by kernel_rfl) (fun _ _ _ h => h) (Or.inl ⟨by kernel_rfl, fun w' _ => by go_simp⟩) hS ?_
      refine wpAnyH_take (i := 2) (v := .int .i64 (s.oo : Int)) rfl (by kernel_rfl) (by kernel_rfl) (by kernel_rfl) (fun _ _ _ h => h) (Or.inl ⟨by kernel_rfl, fun w' hS' => by have q := hS'.1; go_simp⟩) hS ?_
      refine wpAnyH_take (i := 3) (v := .pointer (some ⟨x, 2, none⟩)) rfl (by kernel_rfl) (by kernel_rfl) (by kernel_rfl) (fun _ _ _ h => h) (Or.inl ⟨by kernel_rfl, fun w' _ => by go_simp⟩) hS ?_
      refine wpAnyH_take (i := 4) (v := .pointer (some ⟨x, 2 + s.oo, none⟩)) rfl (by kernel_rfl) (by kernel_rfl) (by kernel_rfl) (fun _ _ _ h => h) (Or.inl ⟨by kernel_rfl, fun w' _ => by go_simp⟩) hS ?_
      refine wpAnyH_take (i := 5) (v := .slice (some ⟨gd, od, none⟩) l.length cd) rfl (by kernel_rfl) (by kernel_rfl) (by kernel_rfl) (fun _ _ _ h => h) (Or.inl ⟨by kernel_rfl, fun w' hS' => by have q := hS'.2.1; go_simp⟩) hS ?_
      refine wpAnyH_take (i := 6) (v := .pointer (some ⟨x, 13, none⟩)) rfl (by kernel_rfl) (by kernel_rfl) (by kernel_rfl) (fun _ _ _ h => h) (Or.inl ⟨by kernel_rfl, fun w' _ => by go_simp⟩) hS ?_
      refine wpAnyH_ready (rs := [7]) (by kernel_rfl) (by simp) ?_
      refine AllReadyH.cons rfl (fun K hK => ?_) AllReadyH.nil
      have g13 : wc.drew.cell? ⟨x, 13, none⟩ = some (.slice Ao s.ol.length co) := k13
      go_simp
      refine hK.out _ _ hS fun hS2 => ?_
      clear hK
      refine wpAnyH_take (i := 8) (v := .int .i64 (s.ol.length : Int)) rfl (by kernel_rfl) (by kernel_rfl) (by kernel_rfl) (fun _ _ _ h => h) (Or.inl ⟨by kernel_rfl, fun w' _ => by go_simp⟩) hS2 ?_
      refine wpAnyH_take (i := 9) (v := .pointer (some ⟨gd, od + s.ol.length, none⟩)) rfl (by kernel_rfl) (by kernel_rfl) (by kernel_rfl) (fun _ _ _ h => h) (Or.inl ⟨by kernel_rfl, fun w' _ => by go_simp⟩) hS2 ?_
      refine wpAnyH_take (i := 10) (v := .int .i64 val) rfl (by kernel_rfl) (by kernel_rfl) (by kernel_rfl) (fun _ _ _ h => h) (Or.inl ⟨by kernel_rfl, fun w' hS' => by have q := hS'.2.2; go_simp⟩) hS2 ?_
      refine wpAnyH_ready (rs := [11]) (by kernel_rfl) (by simp) ?_
      refine AllReadyH.cons rfl (fun K hK => ?_) AllReadyH.nil
      go_simp
      have hS3 : (wc.drew.alloc (.cells #[.int .i64 val] 3)).cell? ⟨x, 6, none⟩ = some (.int .i64 (s.oo : Int)) ∧ (wc.drew.alloc (.cells #[.int .i64 val] 3)).cell? ⟨x, 2 + s.oo, none⟩ = some (.slice (some ⟨gd, od, none⟩) l.length cd) ∧ (wc.drew.alloc (.cells #[.int .i64 val] 3)).cell? ⟨gd, od + s.ol.length, none⟩ = some (.int .i64 val) :=
        ⟨(World.cell?_alloc_some _ _ _ (by rw [g_Fr]; rfl)).trans g_Fr, (World.cell?_alloc_some _ _ _ (by rw [g_d]; rfl)).trans g_d, (World.cell?_alloc_some _ _ _ (by rw [g_e]; rfl)).trans g_e⟩
      refine hK.out _ _ hS3 fun hS4 => ?_
      clear hK
      refine wpAnyH_ready (rs := [12]) (by kernel_rfl) (by simp) ?_
      refine AllReadyH.cons rfl (fun K hK => ?_) AllReadyH.nil
      rw [if_pos (by kernel_rfl)]
      refine wp_app_one (W := wc.drew) _ _ 38 rfl B0 3 (.int .i64 0) 1 8 Tryd.underlying38 infoInt rfl (by decide) (.slice Av s.ol.length cv) s.ol.length (nums s.ol) rfl (show wc.drew.ownsRow B0 3 1 (.slice Av s.ol.length cv) s.ol.length (nums s.ol) from HO.out) #[.int .i64 val] rfl rfl ?_ ?_ ?_ ?_ ?_
      · simp [Value.oneCell']
      · omega
      · omega
      · exact hS0
      intro v' w3 hown' hbel'
      obtain ⟨A', c', rfl⟩ := own_form hown'
      have hbel2 : Below B0 wc w3 := ((Below.refl B0 wc).drew.trans (below_alloc (w := wc.drew) hS0 (.cells #[.int .i64 val] 3))).trans hbel'
      have HB3 := Lib.hid (HB2.out.low hbel2 hxB hyB hwB)
      have c6 : w3.cell? ⟨x, 6, none⟩ = some (.int .i64 (s.oo : Int)) := (hbel2.cell (p := ⟨x, 6, none⟩) hxB).trans k_Fr
      have c2 : w3.cell? ⟨x, 2 + s.oo, none⟩ = some (.slice (some ⟨gd, od, none⟩) l.length cd) := (hbel2.cell (p := ⟨x, 2 + s.oo, none⟩) hxB).trans k_d
      have ce : w3.cell? ⟨gd, od + s.ol.length, none⟩ = some (.int .i64 val) := (hbel2.cell (p := ⟨gd, od + s.ol.length, none⟩) (by show gd < B0; omega)).trans k_e
      refine hK.out _ _ ⟨c6, c2, ce⟩ fun hS5 => ?_
      clear hK hS hS2 hS3 hS4
      have k3 : w3.cell? ⟨x, 13, none⟩ = some (.slice Ao s.ol.length co) := (hbel2.cell (p := ⟨x, 13, none⟩) hxB).trans k13
      have f3 := HB3.out.hx.fr 13
      have HB4 := Lib.hid (show Boxed 50 w (w3.setCell ⟨x, 13, none⟩ (.slice A' (s.ol.length + 1) c')) x y ({ r with out := ⟨A', s.ol.length + 1, c'⟩ } : RF).cells from HB3.out.set 13 (.slice A' (s.ol.length + 1) c'))
      have hgx : gd ≠ x := by have := HB3.out.gx; omega
      refine wpAnyH_take (i := 13) (v := .pointer (some ⟨x, 13, none⟩)) rfl (by kernel_rfl) (by kernel_rfl) (by kernel_rfl) (fun _ _ _ h => h) (Or.inl ⟨by kernel_rfl, fun w' _ => by go_simp⟩) hS5 ?_
      refine wpAnyH_ready (rs := [14]) (by kernel_rfl) (by simp) ?_
      refine AllReadyH.cons rfl (fun K hK => ?_) AllReadyH.nil
      go_simp
      have e6 : (w3.setCell ⟨x, 13, none⟩ (.slice A' (s.ol.length + 1) c')).cell? ⟨x, 6, none⟩ = some (.int .i64 (s.oo : Int)) := (cell_off (by decide)).trans c6
      have e2 : (w3.setCell ⟨x, 13, none⟩ (.slice A' (s.ol.length + 1) c')).cell? ⟨x, 2 + s.oo, none⟩ = some (.slice (some ⟨gd, od, none⟩) l.length cd) := (cell_off (by omega)).trans c2
      have ee : (w3.setCell ⟨x, 13, none⟩ (.slice A' (s.ol.length + 1) c')).cell? ⟨gd, od + s.ol.length, none⟩ = some (.int .i64 val) := (cell_far (Ne.symm hgx)).trans ce
      refine hK.out _ _ ⟨e6, e2, ee⟩ fun hS6 => ?_
      clear hK hS5 hS6 c6 c2 ce e6 e2 ee g_Fr g_d g_e g13 k_Fr k_d k_e k13 k3 f3
      refine wpAnyH_done (by kernel_rfl) ?_ _
      have k4o : (w3.setCell ⟨x, 13, none⟩ (.slice A' (s.ol.length + 1) c')).cell? ⟨x, 13, none⟩ = some (.slice A' (s.ol.length + 1) c') := (HB4.out.hx.cell 13).trans rfl
      have k4W : (w3.setCell ⟨x, 13, none⟩ (.slice A' (s.ol.length + 1) c')).cell? ⟨x, 0, none⟩ = some (.int .i64 (s.W : Int)) := (HB4.out.hx.cell 0).trans (by rw [← HQ.out.2]; rfl)
      obtain ⟨zs, hz, hy⟩ := HB4.out.hy
      have HY := Lib.hid (And.intro hz hy)
      have HNEW := Lib.hid (show IntsX ((w3.setCell ⟨x, 13, none⟩ (.slice A' (s.ol.length + 1) c')).setRow y ({ r with out := ⟨A', s.ol.length + 1, c'⟩ } : RF).cells) (newX X w ((w3.setCell ⟨x, 13, none⟩ (.slice A' (s.ol.length + 1) c')).setRow y ({ r with out := ⟨A', s.ol.length + 1, c'⟩ } : RF).cells)) (.slice A' (s.ol.length + 1) c') (s.ol ++ [val]) from by
        have h1 : IntsX w3 (newX (fun _ => False) wO w3) (.slice A' (s.ol.length + 1) c') (s.ol ++ [val]) := by
          have := IntsX.own (l := s.ol ++ [val]) (w := wO) (X := fun _ => False) hown' (by simp [nums]) (by omega)
          exact this
        have h2 := h1.keep (w' := (w3.setCell ⟨x, 13, none⟩ (.slice A' (s.ol.length + 1) c')).setRow y ({ r with out := ⟨A', s.ol.length + 1, c'⟩ } : RF).cells) (fun g hg => by
          rcases hg with e | ⟨e, -⟩
          · exact e.elim
          · rw [setRow_other _ _ _ _ (by omega), Below.heap_setCell _ _ _ _ (by simp only []; omega)])
        exact h2.mono (fun g hg => by
          rcases hg with e | ⟨e, e'⟩
          · exact e.elim
          · exact .inr ⟨by omega, by simpa [World.setCell] using e'⟩))
      clear hz hy hown' hbel' hbel2 HB3 HB2 HO HIC
      go_simp
      go_wp2_with (first
        | ((with_reducible change wpList _ _ _ _ _ ((w3.setCell ⟨x, 13, none⟩ (.slice A' (s.ol.length + 1) c')))); refine wpList_load_row rfl 50 _ rfl x rfl 50 _ (0, 0) _ HB4.out.hx Tryd.underlying50 rfl rinfo ?_)
        | ((with_reducible change wpList _ _ _ _ _ ((w3.setCell ⟨x, 13, none⟩ (.slice A' (s.ol.length + 1) c')))); refine wpList_store_row rfl 50 _ _ rfl y _ rfl rfl 50 zs HY.out.2 rinfo HY.out.1 (RF.ones _) ?_))
      (try simp only [Exit.inBlock, Exit.then]); refine bodyPost_ret (res_c4 rfl _ rfl HB4.out.row Tryd.underlying50 rfl rinfo) rfl ?_
      exact ⟨_, none, 0, rfl, HB4.out.end_, refin_word (HR.out _ HB4.out.end_) val _ HNEW.out, IntsX.nil _ _⟩
end Go.Proofs.YtdhbiogcaekbbaaDoor
