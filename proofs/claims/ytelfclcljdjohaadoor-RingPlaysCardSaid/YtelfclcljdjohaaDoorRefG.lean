/- The reference's ring: a push's second access. -/
import Derived.Test.YtelfclcljdjohaaDoorRefB
import Derived.Test.YtelfclcljdjohaaDoorRefC
import Derived.Deep.RegionHeld3
import Derived.Deep.MidRow
namespace Go.Proofs.YtelfclcljdjohaaDoor
open Go.RowKit

set_option maxRecDepth 100000 in
set_option maxHeartbeats 3200000 in
theorem rpush2 {w : World} {X : Nat → Prop} {r : RF} {s : RS} (h : RefIn w X r s) (hk : s.ok) (h2 : s.ia = 2) :
    Calls Tryd.prog 45 #[r.v] w fun e w' => ∃ r', e = .returned (.tuple #[RF.v r', .bool s.stepW.2.1, .int .i64 s.stepW.2.2]) ∧ Below w.heap.size w w' ∧ RefIn w' (newX X w w') r' s.stepW.1 := by
  rw [sw2 h2]
  obtain ⟨hma, hsh⟩ := h.a2 h2
  have hD := h.D
  have hT := h.T
  by_cases hd : dist s.P s.tl s.ih = s.P
  · rw [if_pos hd]
    unfold RF.v
    go_enter Tryd.func45, Tryd.ntmps45
    go_upto_region 0 with (fail)
    go_cut [1, 2, 3, 4] (fun p0 p1 p2 p3 wx => ∃ x y, p0 = .pointer (some ⟨x, 0, none⟩) ∧ p1 = .pointer (some ⟨y, 0, none⟩) ∧ p2 = .bool false ∧ p3 = .int .i64 0 ∧ Boxed 51 w wx x y r.cells)
    case first =>
      go_wp2_with fail
      go_meet
      exact ⟨_, _, rfl, rfl, rfl, rfl, boxed_new _ _ _ _ rfl⟩
    case rest =>
      obtain ⟨x, y, rfl, rfl, rfl, rfl, hB⟩ := hcut
      have HR := Lib.hid (show ∀ w', Below w.heap.size w w' → RefIn w' (newX X w w') r s from fun w' hb => h.go hb)
      have hq : (dist s.P s.tl s.ih == (s.P : Int)) = true := by simp [hd]
      have k_D : wc.cell? ⟨x, 0, none⟩ = some (.int .i64 r.D) := (hB.hx.cell 0).trans rfl
      have k_T : wc.cell? ⟨x, 3, none⟩ = some (.int .i64 r.T) := (hB.hx.cell 3).trans rfl
      have k_pu : wc.cell? ⟨x, 12, none⟩ = some (.bool r.pu) := (hB.hx.cell 12).trans rfl
      have k_ma : wc.cell? ⟨x, 14, none⟩ = some (.int .i64 r.ma) := (hB.hx.cell 14).trans rfl
      have k_sh : wc.cell? ⟨x, 16, none⟩ = some (.int .i64 r.sh) := (hB.hx.cell 16).trans rfl
      have k_st : wc.cell? ⟨x, 17, none⟩ = some (.int .i64 r.st) := (hB.hx.cell 17).trans rfl
      have f_ma := hB.hx.fr 14
      have f_st := hB.hx.fr 17
      rw [hma] at k_ma
      rw [hsh] at k_sh
      rw [hD] at k_D
      rw [hT] at k_T
      have hB2 : Boxed 51 w ((wc.setCell ⟨x, 14, none⟩ (.int .i64 2)).setCell ⟨x, 17, none⟩ (.int .i64 (s.tl : Int))) x y ({ r with ma := 2, st := (s.tl : Int) } : RF).cells := (hB.set 14 (.int .i64 2)).set 17 (.int .i64 (s.tl : Int))
      have HHD := Lib.hid (show ∀ W', Calls Tryd.prog 32 #[.agg ({ r with ma := 2, st := (s.tl : Int) } : RF).cells, .int .i64 s.ih, .int .i64 s.tl] W' fun e w' => e = .returned (.int .i64 (dist s.P s.tl s.ih)) ∧ Below W'.heap.size W' w' from
        fun W' => refheld_any { r with ma := 2, st := (s.tl : Int) } s.P s.ih s.tl W' hD hk.p1 hk.p8 hk.ih hk.t2)
      have HB2 := Lib.hid hB2
      have HD := Lib.hid hD
      have HT := Lib.hid hT
      have HSH := Lib.hid hsh
      clear h hma hsh hD hT hk hd
      go_wp2_with fail
      generalize (wc.setCell ⟨x, 14, none⟩ (.int .i64 2)).setCell ⟨x, 17, none⟩ (.int .i64 (s.tl : Int)) = w2 at *
      clear k_D k_T k_pu k_ma k_sh k_st f_ma f_st hB hB2
      have hbw : Below w2.heap.size w2 w2 := Below.refl _ _
      generalize hrr : ({ r with ma := 2, st := (s.tl : Int) } : RF) = r2 at *
      have qD : ∀ w', Boxed 51 w w' x y r2.cells → w'.cell? ⟨x, 0, none⟩ = some (.int .i64 (s.P : Int)) := fun w' h => (h.hx.cell 0).trans (by rw [← hrr, ← HD.out]; rfl)
      have q16 : ∀ w', Boxed 51 w w' x y r2.cells → w'.cell? ⟨x, 16, none⟩ = some (.int .i64 (s.ih : Int)) := fun w' h => (h.hx.cell 16).trans (by rw [← hrr, ← HSH.out]; rfl)
      have q17 : ∀ w', Boxed 51 w w' x y r2.cells → w'.cell? ⟨x, 17, none⟩ = some (.int .i64 (s.tl : Int)) := fun w' h => (h.hx.cell 17).trans (by rw [← hrr]; rfl)
      refine wp_region_held_drew (S := fun w' => Boxed 51 w w' x y r2.cells) rfl (HB2.out.go hbw.drew) fun hS => ?_
      refine wpAnyH_take (i := 0) (v := .agg r2.cells) rfl (by kernel_rfl) (by kernel_rfl) (by kernel_rfl) (fun _ _ _ h => h) (Or.inl ⟨by rfl, fun w' hS' => yields_row 51 _ rfl x rfl hS'.hx Tryd.underlying51 rfl rinfo⟩) hS ?_
      refine wpAnyH_take (i := 1) (v := .pointer (some ⟨x, 16, none⟩)) rfl (by kernel_rfl) (by kernel_rfl) (by kernel_rfl) (fun _ _ _ h => h) (Or.inl ⟨by rfl, fun w' _ => by go_simp⟩) hS ?_
      refine wpAnyH_take (i := 2) (v := .int .i64 (s.ih : Int)) rfl (by kernel_rfl) (by kernel_rfl) (by kernel_rfl) (fun _ _ _ h => h) (Or.inl ⟨by rfl, fun w' hS' => by have q := q16 w' hS'; go_simp⟩) hS ?_
      refine wpAnyH_take (i := 3) (v := .pointer (some ⟨x, 17, none⟩)) rfl (by kernel_rfl) (by kernel_rfl) (by kernel_rfl) (fun _ _ _ h => h) (Or.inl ⟨by rfl, fun w' _ => by go_simp⟩) hS ?_
      refine wpAnyH_take (i := 4) (v := .int .i64 (s.tl : Int)) rfl (by kernel_rfl) (by kernel_rfl) (by kernel_rfl) (fun _ _ _ h => h) (Or.inl ⟨by rfl, fun w' hS' => by have q := q17 w' hS'; go_simp⟩) hS ?_
      refine wpAnyH_take (i := 6) (v := .pointer (some ⟨x, 0, none⟩)) rfl (by kernel_rfl) (by kernel_rfl) (by kernel_rfl) (fun _ _ _ h => h) (Or.inl ⟨by rfl, fun w' _ => by go_simp⟩) hS ?_
      refine wpAnyH_take (i := 7) (v := .int .i64 (s.P : Int)) rfl (by kernel_rfl) (by kernel_rfl) (by kernel_rfl) (fun _ _ _ h => h) (Or.inl ⟨by rfl, fun w' hS' => by have q := qD w' hS'; go_simp⟩) hS ?_
      refine wpAnyH_ready (rs := [5]) (by kernel_rfl) (by simp) ?_
      refine AllReadyH.cons rfl (fun K hK => ?_) AllReadyH.nil
      go_simp
      refine (HHD.out _).mono ?_
      rintro e w' ⟨rfl, hb⟩
      refine hK.out _ _ (hS.go hb) fun hS2 => ?_
      clear hS hK hb
      have HB3 := Lib.hid hS2
      refine wpAnyH_take (i := 8) (v := .bool (dist s.P s.tl s.ih == (s.P : Int))) rfl (by kernel_rfl) (by kernel_rfl) (by kernel_rfl) (fun _ _ _ h => h) (Or.inl ⟨by rfl, fun w' _ => by go_simp⟩) hS2 ?_
      refine wpAnyH_done (by kernel_rfl) ?_ _
      rw [hq]
      have k_pu : w'.cell? ⟨x, 12, none⟩ = some (.bool r.pu) := (HB3.out.hx.cell 12).trans (by rw [← hrr]; rfl)
      have f_pu := HB3.out.hx.fr 12
      have HB4 := Lib.hid (show Boxed 51 w (w'.setCell ⟨x, 12, none⟩ (.bool false)) x y ({ r with ma := 2, st := (s.tl : Int), pu := false } : RF).cells from by have := HB3.out.set 12 (.bool false); rw [← hrr] at this; exact this)
      clear HB3 HHD HB2 hS2 qD q16 q17 hbw
      obtain ⟨zs, hz, hy⟩ := HB4.out.hy
      have HY := Lib.hid (And.intro hz hy)
      clear hz hy hq hrr
      go_simp
      go_wp2_with (first
          | (refine wpList_load_row rfl 51 _ rfl x rfl 51 _ (0, 0) _ HB4.out.hx Tryd.underlying51 rfl rinfo ?_)
          | (refine wpList_store_row rfl 51 _ _ rfl y _ rfl rfl 51 zs HY.out.2 rinfo HY.out.1 (RF.ones _) ?_))
      (try simp only [Exit.inBlock, Exit.then]); refine bodyPost_ret (res_c3 rfl _ rfl HB4.out.row Tryd.underlying51 rfl rinfo) rfl ?_
      exact ⟨_, rfl, HB4.out.end_, refin_w2a (HR.out _ HB4.out.end_) _⟩
  · rw [if_neg hd]
    unfold RF.v
    go_enter Tryd.func45, Tryd.ntmps45
    go_upto_region 0 with (fail)
    go_cut [1, 2, 3, 4] (fun p0 p1 p2 p3 wx => ∃ x y, p0 = .pointer (some ⟨x, 0, none⟩) ∧ p1 = .pointer (some ⟨y, 0, none⟩) ∧ p2 = .bool false ∧ p3 = .int .i64 0 ∧ Boxed 51 w wx x y r.cells)
    case first =>
      go_wp2_with fail
      go_meet
      exact ⟨_, _, rfl, rfl, rfl, rfl, boxed_new _ _ _ _ rfl⟩
    case rest =>
      obtain ⟨x, y, rfl, rfl, rfl, rfl, hB⟩ := hcut
      have HR := Lib.hid (show ∀ w', Below w.heap.size w w' → RefIn w' (newX X w w') r s from fun w' hb => h.go hb)
      have hq : (dist s.P s.tl s.ih == (s.P : Int)) = false := by simp [hd]
      have k_D : wc.cell? ⟨x, 0, none⟩ = some (.int .i64 r.D) := (hB.hx.cell 0).trans rfl
      have k_T : wc.cell? ⟨x, 3, none⟩ = some (.int .i64 r.T) := (hB.hx.cell 3).trans rfl
      have k_pu : wc.cell? ⟨x, 12, none⟩ = some (.bool r.pu) := (hB.hx.cell 12).trans rfl
      have k_ma : wc.cell? ⟨x, 14, none⟩ = some (.int .i64 r.ma) := (hB.hx.cell 14).trans rfl
      have k_sh : wc.cell? ⟨x, 16, none⟩ = some (.int .i64 r.sh) := (hB.hx.cell 16).trans rfl
      have k_st : wc.cell? ⟨x, 17, none⟩ = some (.int .i64 r.st) := (hB.hx.cell 17).trans rfl
      have f_ma := hB.hx.fr 14
      have f_st := hB.hx.fr 17
      rw [hma] at k_ma
      rw [hsh] at k_sh
      rw [hD] at k_D
      rw [hT] at k_T
      have hB2 : Boxed 51 w ((wc.setCell ⟨x, 14, none⟩ (.int .i64 2)).setCell ⟨x, 17, none⟩ (.int .i64 (s.tl : Int))) x y ({ r with ma := 2, st := (s.tl : Int) } : RF).cells := (hB.set 14 (.int .i64 2)).set 17 (.int .i64 (s.tl : Int))
      have HHD := Lib.hid (show ∀ W', Calls Tryd.prog 32 #[.agg ({ r with ma := 2, st := (s.tl : Int) } : RF).cells, .int .i64 s.ih, .int .i64 s.tl] W' fun e w' => e = .returned (.int .i64 (dist s.P s.tl s.ih)) ∧ Below W'.heap.size W' w' from
        fun W' => refheld_any { r with ma := 2, st := (s.tl : Int) } s.P s.ih s.tl W' hD hk.p1 hk.p8 hk.ih hk.t2)
      have HB2 := Lib.hid hB2
      have HD := Lib.hid hD
      have HT := Lib.hid hT
      have HSH := Lib.hid hsh
      clear h hma hsh hD hT hk hd
      go_wp2_with fail
      generalize (wc.setCell ⟨x, 14, none⟩ (.int .i64 2)).setCell ⟨x, 17, none⟩ (.int .i64 (s.tl : Int)) = w2 at *
      clear k_D k_T k_pu k_ma k_sh k_st f_ma f_st hB hB2
      have hbw : Below w2.heap.size w2 w2 := Below.refl _ _
      generalize hrr : ({ r with ma := 2, st := (s.tl : Int) } : RF) = r2 at *
      have qD : ∀ w', Boxed 51 w w' x y r2.cells → w'.cell? ⟨x, 0, none⟩ = some (.int .i64 (s.P : Int)) := fun w' h => (h.hx.cell 0).trans (by rw [← hrr, ← HD.out]; rfl)
      have q16 : ∀ w', Boxed 51 w w' x y r2.cells → w'.cell? ⟨x, 16, none⟩ = some (.int .i64 (s.ih : Int)) := fun w' h => (h.hx.cell 16).trans (by rw [← hrr, ← HSH.out]; rfl)
      have q17 : ∀ w', Boxed 51 w w' x y r2.cells → w'.cell? ⟨x, 17, none⟩ = some (.int .i64 (s.tl : Int)) := fun w' h => (h.hx.cell 17).trans (by rw [← hrr]; rfl)
      refine wp_region_held_drew (S := fun w' => Boxed 51 w w' x y r2.cells) rfl (HB2.out.go hbw.drew) fun hS => ?_
      refine wpAnyH_take (i := 0) (v := .agg r2.cells) rfl (by kernel_rfl) (by kernel_rfl) (by kernel_rfl) (fun _ _ _ h => h) (Or.inl ⟨by rfl, fun w' hS' => yields_row 51 _ rfl x rfl hS'.hx Tryd.underlying51 rfl rinfo⟩) hS ?_
      refine wpAnyH_take (i := 1) (v := .pointer (some ⟨x, 16, none⟩)) rfl (by kernel_rfl) (by kernel_rfl) (by kernel_rfl) (fun _ _ _ h => h) (Or.inl ⟨by rfl, fun w' _ => by go_simp⟩) hS ?_
      refine wpAnyH_take (i := 2) (v := .int .i64 (s.ih : Int)) rfl (by kernel_rfl) (by kernel_rfl) (by kernel_rfl) (fun _ _ _ h => h) (Or.inl ⟨by rfl, fun w' hS' => by have q := q16 w' hS'; go_simp⟩) hS ?_
      refine wpAnyH_take (i := 3) (v := .pointer (some ⟨x, 17, none⟩)) rfl (by kernel_rfl) (by kernel_rfl) (by kernel_rfl) (fun _ _ _ h => h) (Or.inl ⟨by rfl, fun w' _ => by go_simp⟩) hS ?_
      refine wpAnyH_take (i := 4) (v := .int .i64 (s.tl : Int)) rfl (by kernel_rfl) (by kernel_rfl) (by kernel_rfl) (fun _ _ _ h => h) (Or.inl ⟨by rfl, fun w' hS' => by have q := q17 w' hS'; go_simp⟩) hS ?_
      refine wpAnyH_take (i := 6) (v := .pointer (some ⟨x, 0, none⟩)) rfl (by kernel_rfl) (by kernel_rfl) (by kernel_rfl) (fun _ _ _ h => h) (Or.inl ⟨by rfl, fun w' _ => by go_simp⟩) hS ?_
      refine wpAnyH_take (i := 7) (v := .int .i64 (s.P : Int)) rfl (by kernel_rfl) (by kernel_rfl) (by kernel_rfl) (fun _ _ _ h => h) (Or.inl ⟨by rfl, fun w' hS' => by have q := qD w' hS'; go_simp⟩) hS ?_
      refine wpAnyH_ready (rs := [5]) (by kernel_rfl) (by simp) ?_
      refine AllReadyH.cons rfl (fun K hK => ?_) AllReadyH.nil
      go_simp
      refine (HHD.out _).mono ?_
      rintro e w' ⟨rfl, hb⟩
      refine hK.out _ _ (hS.go hb) fun hS2 => ?_
      clear hS hK hb
      have HB3 := Lib.hid hS2
      refine wpAnyH_take (i := 8) (v := .bool (dist s.P s.tl s.ih == (s.P : Int))) rfl (by kernel_rfl) (by kernel_rfl) (by kernel_rfl) (fun _ _ _ h => h) (Or.inl ⟨by rfl, fun w' _ => by go_simp⟩) hS2 ?_
      refine wpAnyH_done (by kernel_rfl) ?_ _
      rw [hq]
      have HB4 := Lib.hid (show Boxed 51 w w' x y ({ r with ma := 2, st := (s.tl : Int) } : RF).cells from by have := HB3.out; rw [← hrr] at this; exact this)
      clear HB3 HHD HB2 hS2 qD q16 q17 hbw
      obtain ⟨zs, hz, hy⟩ := HB4.out.hy
      have HY := Lib.hid (And.intro hz hy)
      clear hz hy hq hrr
      go_simp
      go_wp2_with (first
          | (refine wpList_load_row rfl 51 _ rfl x rfl 51 _ (0, 0) _ HB4.out.hx Tryd.underlying51 rfl rinfo ?_)
          | (refine wpList_store_row rfl 51 _ _ rfl y _ rfl rfl 51 zs HY.out.2 rinfo HY.out.1 (RF.ones _) ?_))
      (try simp only [Exit.inBlock, Exit.then]); refine bodyPost_ret (res_c3 rfl _ rfl HB4.out.row Tryd.underlying51 rfl rinfo) rfl ?_
      exact ⟨_, rfl, HB4.out.end_, refin_w2b (HR.out _ HB4.out.end_) h2 _ rfl⟩
end Go.Proofs.YtelfclcljdjohaaDoor
