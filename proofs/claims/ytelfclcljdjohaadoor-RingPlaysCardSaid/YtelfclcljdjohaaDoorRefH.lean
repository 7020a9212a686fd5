/- The reference's ring: a word is pushed. -/
import Derived.Test.YtelfclcljdjohaaDoorRefB
import Derived.Test.YtelfclcljdjohaaDoorRefC
import Derived.Deep.RegionHeld3
import Derived.Deep.MidRow
namespace Go.Proofs.YtelfclcljdjohaaDoor
open Go.RowKit

/-- A new row, one word of it put anew. -/
theorem row_new {w2 w' : World} {X : Nat → Prop} {g cap n k : Nat} {l : List Int} {val : Int} (hn : l.length = n) (hc : ∀ j, j < n → w2.cell? ⟨g, j, none⟩ = (nums l)[j]?) (hk : k < n) (hcap : n ≤ cap) (hX : X g)
    (hw : ∀ j, w'.cell? ⟨g, j, none⟩ = (w2.setCell ⟨g, k, none⟩ (.int .i64 val)).cell? ⟨g, j, none⟩) : IntsX w' X (.slice (some ⟨g, 0, none⟩) n cap) (l.set k val) := by
  subst hn
  refine ⟨_, cap, by rw [List.length_set], by rw [List.length_set]; exact hcap, fun _ => ⟨g, 0, rfl, hX, fun j hj => ?_⟩⟩
  rw [List.length_set] at hj
  rw [Nat.zero_add, hw j]
  by_cases e : k = j
  · subst e
    rw [World.cell?_setCell_same _ _ _ (by rw [hc k hj, nums_get l k hj])]
    simp
  · rw [cell_off e, hc j hj, nums_get l j hj]
    simp [e]
set_option maxRecDepth 100000 in
set_option maxHeartbeats 3200000 in
theorem rpush3a {w : World} {X : Nat → Prop} {r : RF} {s : RS} (h : RefIn w X r s) (hk : s.ok) (h3 : s.ia = 3) (hn : s.inn < s.W) :
    Calls Tryd.prog 45 #[r.v] w fun e w' => ∃ r', e = .returned (.tuple #[RF.v r', .bool s.stepW.2.1, .int .i64 s.stepW.2.2]) ∧ Below w.heap.size w w' ∧ RefIn w' (newX X w w') r' s.stepW.1 := by
  rw [sw3 h3, if_pos hn]
  obtain ⟨hma, hst⟩ := h.a3 h3
  have hD := h.D
  have hW := h.W
  have hP1 := hk.p1
  have hP8 := hk.p8
  have hW6 := hk.w6
  have hit := hk.it
  have hq : s.it % s.P < s.P := Nat.mod_lt _ (by omega)
  have hil := (hk.il (by omega)).1
  obtain ⟨val, hval⟩ : ∃ val, s.il[s.inn]?.getD 0 = val := ⟨_, rfl⟩
  rw [hval]
  have hle := row_len hk _ hq
  obtain ⟨Ad, cd, hdv, -⟩ := (h.d _ hq).form
  obtain ⟨Ai, ci, hiv, -⟩ := (h.il (by omega)).form
  obtain ⟨rfl, hin, rfl⟩ : r.inn.A = Ai ∧ r.inn.n = s.il.length ∧ r.inn.c = ci := by
    have e : Value.slice r.inn.A r.inn.n r.inn.c = .slice Ai s.il.length ci := hiv
    injection e with e1 e2 e3
    exact ⟨e1, e2, e3⟩
  obtain ⟨gi, oi, hia, hic⟩ : ∃ g o, r.inn.A = some ⟨g, o, none⟩ ∧ w.cell? ⟨g, o + s.inn, none⟩ = some (.int .i64 val) := by
    obtain ⟨A', c', e, -, hc⟩ := (h.il (by omega)).ints
    obtain ⟨g, o, rfl, hcell⟩ := hc (by omega)
    have e' : Value.slice r.inn.A r.inn.n r.inn.c = .slice (some ⟨g, o, none⟩) s.il.length c' := e
    injection e' with e1 e2 e3
    refine ⟨g, o, e1, ?_⟩
    rw [hcell s.inn (by omega), ← hval, List.getElem?_eq_getElem (by omega)]
    rfl
  have ht : (s.it : Int).tmod (s.P : Int) = ((s.it % s.P : Nat) : Int) := by rw [Int.tmod_eq_emod_of_nonneg (by omega)]; omega
  have w0 : IntKind.i64.wrap ((s.it % s.P : Nat) : Int) = ((s.it % s.P : Nat) : Int) := by rw [IntKind.wrap_i64]; omega
  have hne1 : ¬ (s.P : Int) = 0 := by omega
  have hne2 : ¬ s.P = 0 := by omega
  have b0 : ((2 + (s.inn : Int)) == 0) = false := by simp; omega
  have b1 : ((2 + (s.inn : Int)) == 1) = false := by simp; omega
  have b2 : 2 + (s.inn : Int) < 2 + (s.W : Int) := by omega
  have b3 : 2 + (s.inn : Int) - 2 = (s.inn : Int) := by omega
  have b4 : ((s.it % s.P : Nat) : Int) < 8 := by omega
  have b5 : (0 : Int) ≤ ((s.it % s.P : Nat) : Int) := by omega
  have b6 : (s.inn : Int) < (s.il.length : Int) := by omega
  have b7 : (s.inn : Int) < ((s.row (s.it % s.P)).length : Int) := by omega
  have b8 : (0 : Int) ≤ (s.inn : Int) := by omega
  have HIN := Lib.hid (show ∀ w', Below w.heap.size w w' → IntsIn w' (.slice Ad (s.row (s.it % s.P)).length cd) (s.row (s.it % s.P)) from fun w' hb => by
    have := ((h.d _ hq).below hb).ints
    rw [hdv] at this
    exact this)
  have hl0 : 0 < (s.row (s.it % s.P)).length := by omega
  have hl65 : (s.row (s.it % s.P)).length ≤ 65536 := by omega
  have HLE := Lib.hid hle
  have HST := Lib.hid (And.intro hst hD)
  unfold RF.v
  go_enter Tryd.func45, Tryd.ntmps45
  go_upto_region 0 with (fail)
  go_cut [1, 2, 3, 4] (fun p0 p1 p2 p3 wx => ∃ x y, p0 = .pointer (some ⟨x, 0, none⟩) ∧ p1 = .pointer (some ⟨y, 0, none⟩) ∧ p2 = .bool false ∧ p3 = .int .i64 0 ∧ Boxed 51 w wx x y r.cells)
  case first =>
    go_wp2_with fail
    go_meet
    exact ⟨_, _, rfl, rfl, rfl, rfl, boxed_new _ _ _ _ rfl⟩
  case rest =>
    obtain ⟨x, y, rfl, rfl, rfl, rfl, hB⟩ := hcut
    have HR := Lib.hid (show ∀ w', Below w.heap.size w w' → RefIn w' (newX X w w') r s from fun w' hb => h.go hb)
    have HK := Lib.hid (And.intro hk hn)
    have k_D : wc.cell? ⟨x, 0, none⟩ = some (.int .i64 r.D) := (hB.hx.cell 0).trans rfl
    have k_W : wc.cell? ⟨x, 1, none⟩ = some (.int .i64 r.W) := (hB.hx.cell 1).trans rfl
    have k_ma : wc.cell? ⟨x, 14, none⟩ = some (.int .i64 r.ma) := (hB.hx.cell 14).trans rfl
    have k_st : wc.cell? ⟨x, 17, none⟩ = some (.int .i64 r.st) := (hB.hx.cell 17).trans rfl
    have f_ma := hB.hx.fr 14
    rw [hma] at k_ma
    rw [hD] at k_D
    rw [hW] at k_W
    rw [hst] at k_st
    have hB1 := Lib.hid (show Boxed 51 w (wc.setCell ⟨x, 14, none⟩ (.int .i64 (2 + (s.inn : Int) + 1))) x y ({ r with ma := 2 + (s.inn : Int) + 1 } : RF).cells from hB.set 14 (.int .i64 (2 + (s.inn : Int) + 1)))
    have k_d : (wc.setCell ⟨x, 14, none⟩ (.int .i64 (2 + (s.inn : Int) + 1))).cell? ⟨x, 4 + s.it % s.P, none⟩ = some (.slice Ad (s.row (s.it % s.P)).length cd) := (hB1.out.hx.cell _).trans (by
      rw [RF.cd _ _ (by omega), ← hdv]
      have e : ({ r with ma := 2 + (s.inn : Int) + 1 } : RF).d (s.it % s.P) = r.d (s.it % s.P) := rfl
      rw [e])
    have HIC := Lib.hid hic
    clear h hma hst hD hW hdv hiv hk hn hq hit hil hval hB hle hic
    generalize hqe : s.it % s.P = q at *
    generalize hre : s.row q = l at *
    have HQE := Lib.hid (And.intro hqe hre)
    clear hqe hre
    go_wp2_with (at_builtin; go_loud (refine app_copy rfl _ _ rfl l rfl _ rfl (HIN.out _ hB1.out.bel) hl0 hl65 ?_))
    intro v' w2 ho hb
    have hsz : (wc.setCell ⟨x, 14, none⟩ (.int .i64 (2 + (s.inn : Int) + 1))).heap.size = wc.heap.size := by simp [World.setCell]
    have hB2 := Lib.hid (hB1.out.go (by rw [hsz]; exact hb))
    obtain ⟨g, cap, rfl, hg, hglt, hcap, hcell, hfr⟩ := own_pos ho hl0
    have hgx : g ≠ x := by have := hB1.out.hx.lt; omega
    have hgy : g ≠ y := by obtain ⟨zs, _, hy⟩ := hB1.out.hy; have := hy.lt; omega
    have hgw : w.heap.size ≤ g := by have := hB1.out.bel.size; omega
    clear hsz
    have k_in : w2.cell? ⟨x, 20, none⟩ = some (.slice (some ⟨gi, oi, none⟩) s.il.length r.inn.c) := (hB2.out.hx.cell 20).trans (by rw [← hia, ← hin]; rfl)
    have k_v : w2.cell? ⟨gi, oi + s.inn, none⟩ = some (.int .i64 val) := (hB2.out.bel.cell (p := ⟨gi, oi + s.inn, none⟩) (World.block_lt_of_cell? _ _ HIC.out)).trans HIC.out
    obtain ⟨z0, hz0⟩ : ∃ z0, w2.cell? ⟨g, s.inn, none⟩ = some z0 := by
      have := hcell s.inn (by omega)
      exact ⟨_, this.trans (nums_get l s.inn (by omega))⟩
    have f_v := hfr s.inn
    have hB3 := Lib.hid (hB2.out.far s.inn (.int .i64 val) hgx hgy hgw)
    have k3_st : (w2.setCell ⟨g, s.inn, none⟩ (.int .i64 val)).cell? ⟨x, 17, none⟩ = some (.int .i64 (s.it : Int)) := (hB3.out.hx.cell 17).trans (by rw [← HST.out.1]; rfl)
    have k3_D : (w2.setCell ⟨g, s.inn, none⟩ (.int .i64 val)).cell? ⟨x, 0, none⟩ = some (.int .i64 (s.P : Int)) := (hB3.out.hx.cell 0).trans (by rw [← HST.out.2]; rfl)
    have k3_d : (w2.setCell ⟨g, s.inn, none⟩ (.int .i64 val)).cell? ⟨x, 4 + q, none⟩ = some (({ r with ma := 2 + (s.inn : Int) + 1 } : RF).d q).v := (hB3.out.hx.cell _).trans (RF.cd _ _ (by omega))
    have f3_d := hB3.out.hx.fr (4 + q)
    have hB4 := hB3.out.set (4 + q) (Sl.v ⟨some ⟨g, 0, none⟩, l.length, cap⟩)
    rw [RF.cset _ _ _ (by omega)] at hB4
    have HB4 := Lib.hid hB4
    obtain ⟨zs, hz, hy⟩ := HB4.out.hy
    have HY := Lib.hid (And.intro hz hy)
    have hglt2 : g < w2.heap.size := hglt
    have HNEW := Lib.hid (show IntsX (((w2.setCell ⟨g, s.inn, none⟩ (.int .i64 val)).setCell ⟨x, 4 + q, none⟩ (Sl.v ⟨some ⟨g, 0, none⟩, l.length, cap⟩)).setRow y (({ r with ma := 2 + (s.inn : Int) + 1 } : RF).setd ⟨some ⟨g, 0, none⟩, l.length, cap⟩ q).cells) (newX X w (((w2.setCell ⟨g, s.inn, none⟩ (.int .i64 val)).setCell ⟨x, 4 + q, none⟩ (Sl.v ⟨some ⟨g, 0, none⟩, l.length, cap⟩)).setRow y (({ r with ma := 2 + (s.inn : Int) + 1 } : RF).setd ⟨some ⟨g, 0, none⟩, l.length, cap⟩ q).cells)) (Sl.v ⟨some ⟨g, 0, none⟩, l.length, cap⟩) (l.set s.inn val) from
      row_new (n := l.length) rfl (fun j hj => hcell j (by omega)) (by omega) hcap (.inr ⟨hgw, by simpa [World.setCell] using hglt2⟩) (fun j => by rw [cell_setRow_other _ _ _ _ hgy, cell_far (Ne.symm hgx)]))
    clear ho hb hB2 hB3 hB4 hz hy hcell hfr hB1 k_D k_W k_ma k_st f_ma k_d HIN
    go_wp2_with (first
      | (refine wpList_load_row rfl 51 _ rfl x rfl 51 _ (0, 0) _ HB4.out.hx Tryd.underlying51 rfl rinfo ?_)
      | (refine wpList_store_row rfl 51 _ _ rfl y _ rfl rfl 51 zs HY.out.2 rinfo HY.out.1 (RF.ones _) ?_))
    (try simp only [Exit.inBlock, Exit.then]); refine bodyPost_ret (res_c3 rfl _ rfl HB4.out.row Tryd.underlying51 rfl rinfo) rfl ?_
    obtain ⟨rfl, rfl⟩ := HQE.out
    exact ⟨_, rfl, HB4.out.end_, refin_w3a (HR.out _ HB4.out.end_) HK.out.1 h3 HK.out.2 val _ HNEW.out⟩
end Go.Proofs.YtelfclcljdjohaaDoor
