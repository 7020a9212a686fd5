/- The reference's port: Value, Same, and the law's like. -/
import Derived.Test.YtmcelldklmjlkaaDoorSrefC
import Derived.Deep.AppendLies
namespace Go.Proofs.YtmcelldklmjlkaaDoor
open Go.RowKit

theorem v9info : (Tryd.prog.info? 59).map (·.size) = some 5 := by kernel_rfl
theorem valC_ones (A : Option Addr) (n c : Nat) (x : SV) : (valC (.slice A n c) x).all (·.oneCell') = true := by simp [valC, Value.oneCell']
/-- append(nil, l..), in a region that draws its order. -/
theorem wp_app_copy {W : World} {o : Oper} {a : Act} {K : Act → World → Prop} {Q : Exit → Act → World → Prop} (s x : Operand)
    (ho : o.op = .call { callee := .builtin .append, args := #[s, x], argTypes := #[29, 29] }) (l : List Int) (hs : a.eval s = .slice none 0 0) (u : Value) (hx : a.eval x = u) (hu : IntsIn W u l) (h0 : 0 < l.length) (hl : l.length ≤ 65536)
    (h : ∀ v' w', w'.ownsRow W.heap.size 3 1 v' l.length (nums l) → Below W.heap.size W w' → K (a.put o.dst v') w') : o.wp Tryd.prog a W K Q := by
  obtain ⟨i0, hi, hz0, hz1, hz2⟩ := info_parts infoInt
  obtain ⟨A, c, rfl, hlc, k⟩ := hu
  obtain ⟨g, of, rfl, hcell⟩ := k h0
  refine wp_append_own W s x 29 ho W.heap.size 3 i0 (.int .i64 0) 1 8 Tryd.underlying29 hi hz0 hz1 hz2 rfl (by decide) (.slice none 0 0) 0 [] hs (World.ownsRow_nil _ _ _ _) ⟨g, of, none⟩ l.length c (nums l) hx (by simp [nums]) ?_ (ints_oneCell _ _) ?_ ?_ (by simp) ?_
  · intro j u hj
    have hjl : j < l.length := by have := (List.getElem?_eq_some_iff.1 hj).1; rwa [nums_len] at this
    rw [nums_get l j hjl] at hj
    have ha : (⟨g, of, none⟩ : Addr).add (j * 1) = ⟨g, of + j, none⟩ := by unfold Addr.add; split <;> simp_all
    first
      | (rw [ha, hcell j hjl, hj])
      | (have ha : (⟨g, of, none⟩ : Addr).add j = ⟨g, of + j, none⟩ := by unfold Addr.add; split <;> simp_all
         rw [ha, hcell j hjl, hj])
  · simp [maxLen]; omega
  · omega
  intro v' w' hown hg _
  refine h v' w' (by simpa using hown) ((Below.refl _ W).grown hg (Nat.le_refl _) (fun k hk => by simp [Value.ownBlock] at hk))
set_option maxRecDepth 100000 in
set_option maxHeartbeats 3200000 in
theorem pvalue_any {w : World} {f : PF} {v : Value} {l : List Int} (hv : IntsIn w v l) (h3 : 3 ≤ l.length) (hl : l.length ≤ 65536) (now : Int) :
    Calls Tryd.prog 43 #[f.v, v, .int .i64 now] w fun e w' => ∃ u, e = .returned (.agg (valC u (valOf f.re l now))) ∧ WordsAt w.heap.size w' u (valOf f.re l now) ∧ Below w.heap.size w w' := by
  obtain ⟨A, c, rfl, hlc, hcs⟩ := hv
  obtain ⟨g, o, rfl, hcell⟩ := hcs (by omega)
  have e0 : l[0]?.getD 0 = l[0] := by rw [List.getElem?_eq_getElem (by omega)]; rfl
  have e1 : l[1]?.getD 0 = l[1] := by rw [List.getElem?_eq_getElem (by omega)]; rfl
  have k0 : w.cell? ⟨g, o, none⟩ = some (.int .i64 (l[0]?.getD 0)) := by rw [e0]; exact hcell 0 (by omega)
  have k1 : w.cell? ⟨g, o + 1, none⟩ = some (.int .i64 (l[1]?.getD 0)) := by rw [e1]; exact hcell 1 (by omega)
  have hg : g < w.heap.size := World.block_lt_of_cell? _ _ k0
  have ev : valOf f.re l now = if l[0]?.getD 0 = 0 then SV.none else ⟨l.drop 2, l[0]?.getD 0, l[1]?.getD 0, true, decide (ageI now (l[1]?.getD 0) ≤ f.re)⟩ := by
    unfold valOf
    by_cases h0 : l[0]?.getD 0 = 0
    · rw [if_pos (.inr h0), if_pos h0]
    · rw [if_neg (by omega), if_neg h0]
  rw [ev]
  clear e0 e1 ev
  generalize l[0]?.getD 0 = x0 at *
  generalize l[1]?.getD 0 = x1 at *
  have b2 : (0 : Int) < (l.length : Int) := by omega
  have b3 : (1 : Int) < (l.length : Int) := by omega
  have b4 : (2 : Int) ≤ (l.length : Int) := by omega
  have HI := Lib.hid (show IntsIn w (.slice (some ⟨g, o + 2, none⟩) (l.drop 2).length (c - 2)) (l.drop 2) from ⟨_, _, rfl, by rw [List.length_drop]; omega, fun _ => ⟨g, o + 2, rfl, fun i hi => by
    rw [List.length_drop] at hi
    rw [List.getElem_drop, ← hcell (2 + i) (by omega)]
    congr 2
    omega⟩⟩)
  rw [show (l.drop 2).length = l.length - 2 by rw [List.length_drop]] at HI
  have HK := Lib.hid (And.intro k0 k1)
  have HSUB := Lib.hid (rsub_any now x1)
  have hld : 0 < (l.drop 2).length := by rw [List.length_drop]; omega
  have hld2 : (l.drop 2).length ≤ 65536 := by rw [List.length_drop]; omega
  have HLD := Lib.hid (And.intro hld hld2)
  clear hcs hcell k0 k1 hld hld2
  generalize ageI now x1 = ag at *
  unfold PF.v
  go_enter Tryd.func43, Tryd.ntmps43
  go_upto_region 0 with (fail)
  go_cut [3, 6] (fun p0 p1 wx => ∃ x y, p0 = .pointer (some ⟨x, 0, none⟩) ∧ p1 = .pointer (some ⟨y, 0, none⟩) ∧ Blk wx x 48 f.cells ∧ Blk wx y 59 (valC (.slice none 0 0) SV.none) ∧ Below w.heap.size w wx ∧ w.heap.size ≤ x ∧ w.heap.size ≤ y ∧ x ≠ y)
  case first =>
    go_wp2_with fail
    go_meet
    exact ⟨_, _, rfl, rfl, heap_alloc2_old w _ _, heap_alloc2_new w _ _, (below_alloc (Nat.le_refl _) _).trans (below_alloc (by simp) _), Nat.le_refl _, by omega, by omega⟩
  case rest =>
  obtain ⟨x, y, rfl, rfl, hx, hy, hb, gx, gy, ne⟩ := hcut
  have k_re : wc.cell? ⟨x, 1, none⟩ = some (.int .i64 f.re) := (hx.cell 1).trans rfl
  have d0 : wc.cell? ⟨g, o, none⟩ = some (.int .i64 x0) := (hb.cell (p := ⟨g, o, none⟩) hg).trans HK.out.1
  have d1 : wc.cell? ⟨g, o + 1, none⟩ = some (.int .i64 x1) := (hb.cell (p := ⟨g, o + 1, none⟩) hg).trans HK.out.2
  have HX := Lib.hid hx
  have HY := Lib.hid hy
  have HB := Lib.hid hb
  clear hx hy hb
  by_cases hz : x0 = 0
  · subst hz
    go_wp2_with (refine wpList_store_row rfl 59 _ _ rfl y (valC (.slice none 0 0) SV.none) rfl rfl 59 _ HY.out v9info rfl (valC_ones _ _ _ _) ?_)
    (try simp only [Exit.inBlock, Exit.then]); refine bodyPost_ret (res_c1 rfl _ rfl (show Blk (wc.setRow y (valC (.slice none 0 0) SV.none)) y 59 _ from setRow_heap _ _ _ _ 59 (0, 0) HY.out) Tryd.underlying59 rfl v9info) rfl ?_
    (try rw [if_pos rfl])
    exact ⟨.slice none 0 0, rfl, ⟨IntsIn.nil _, fun g hg => by simp [Value.ownBlock] at hg⟩, below_setRow HB.out gy _⟩
  · have HZN := Lib.hid hz
    have z0 : (x0 == 0) = false := by simpa using hz
    have HI2 := Lib.hid (show ∀ w', Below wc.heap.size wc w' → IntsIn w' (.slice (some ⟨g, o + 2, none⟩) (l.length - 2) (c - 2)) (l.drop 2) from fun w' h => HI.out.below (HB.out.trans (h.mono HB.out.size)))
    have hyl := HY.out.lt
    clear hz
    go_wp2_with fail
    refine wp_region_held_drew (S := fun w' => w'.cell? ⟨g, o, none⟩ = some (.int .i64 x0) ∧ w'.cell? ⟨g, o + 1, none⟩ = some (.int .i64 x1) ∧ w'.cell? ⟨x, 1, none⟩ = some (.int .i64 f.re)) rfl ⟨d0, d1, k_re⟩ fun hS => ?_
    refine wpAnyH_take (i := 0) (v := .slice none 0 0) rfl (by kernel_rfl) (by kernel_rfl) (by kernel_rfl) (fun _ _ _ h => h) (Or.inl ⟨by kernel_rfl, fun w' _ => by go_simp⟩) hS ?_
    refine wpAnyH_take (i := 1) (v := .slice (some ⟨g, o, none⟩) l.length c) rfl (by kernel_rfl) (by kernel_rfl) (by kernel_rfl) (fun _ _ _ h => h) (Or.inl ⟨by kernel_rfl, fun w' _ => by go_simp⟩) hS ?_
    refine wpAnyH_take (i := 2) (v := .slice (some ⟨g, o + 2, none⟩) (l.length - 2) (c - 2)) rfl (by kernel_rfl) (by kernel_rfl) (by kernel_rfl) (fun _ _ _ h => h) (Or.inl ⟨by kernel_rfl, fun w' _ => by go_simp; omega⟩) hS ?_
    refine wpAnyH_take (i := 4) (v := .slice (some ⟨g, o, none⟩) l.length c) rfl (by kernel_rfl) (by kernel_rfl) (by kernel_rfl) (fun _ _ _ h => h) (Or.inl ⟨by kernel_rfl, fun w' _ => by go_simp⟩) hS ?_
    refine wpAnyH_take (i := 5) (v := .pointer (some ⟨g, o, none⟩)) rfl (by kernel_rfl) (by kernel_rfl) (by kernel_rfl) (fun _ _ _ h => h) (Or.inl ⟨by kernel_rfl, fun w' _ => by go_simp; intro e; rw [e] at h3; simp at h3⟩) hS ?_
    refine wpAnyH_take (i := 6) (v := .int .i64 x0) rfl (by kernel_rfl) (by kernel_rfl) (by kernel_rfl) (fun _ _ _ h => h) (Or.inl ⟨by kernel_rfl, fun w' hS' => by have q := hS'.1; go_simp⟩) hS ?_
    refine wpAnyH_take (i := 7) (v := .slice (some ⟨g, o, none⟩) l.length c) rfl (by kernel_rfl) (by kernel_rfl) (by kernel_rfl) (fun _ _ _ h => h) (Or.inl ⟨by kernel_rfl, fun w' _ => by go_simp⟩) hS ?_
    refine wpAnyH_take (i := 8) (v := .pointer (some ⟨g, o + 1, none⟩)) rfl (by kernel_rfl) (by kernel_rfl) (by kernel_rfl) (fun _ _ _ h => h) (Or.inl ⟨by kernel_rfl, fun w' _ => by go_simp⟩) hS ?_
    refine wpAnyH_take (i := 9) (v := .int .i64 x1) rfl (by kernel_rfl) (by kernel_rfl) (by kernel_rfl) (fun _ _ _ h => h) (Or.inl ⟨by kernel_rfl, fun w' hS' => by have q := hS'.2.1; go_simp⟩) hS ?_
    refine wpAnyH_take (i := 10) (v := .int .i64 now) rfl (by kernel_rfl) (by kernel_rfl) (by kernel_rfl) (fun _ _ _ h => h) (Or.inl ⟨by kernel_rfl, fun w' _ => by go_simp⟩) hS ?_
    refine wpAnyH_take (i := 11) (v := .slice (some ⟨g, o, none⟩) l.length c) rfl (by kernel_rfl) (by kernel_rfl) (by kernel_rfl) (fun _ _ _ h => h) (Or.inl ⟨by kernel_rfl, fun w' _ => by go_simp⟩) hS ?_
    refine wpAnyH_take (i := 12) (v := .pointer (some ⟨g, o + 1, none⟩)) rfl (by kernel_rfl) (by kernel_rfl) (by kernel_rfl) (fun _ _ _ h => h) (Or.inl ⟨by kernel_rfl, fun w' _ => by go_simp⟩) hS ?_
    refine wpAnyH_take (i := 13) (v := .int .i64 x1) rfl (by kernel_rfl) (by kernel_rfl) (by kernel_rfl) (fun _ _ _ h => h) (Or.inl ⟨by kernel_rfl, fun w' hS' => by have q := hS'.2.1; go_simp⟩) hS ?_
    refine wpAnyH_take (i := 15) (v := .pointer (some ⟨x, 1, none⟩)) rfl (by kernel_rfl) (by kernel_rfl) (by kernel_rfl) (fun _ _ _ h => h) (Or.inl ⟨by kernel_rfl, fun w' _ => by go_simp⟩) hS ?_
    refine wpAnyH_take (i := 16) (v := .int .i64 f.re) rfl (by kernel_rfl) (by kernel_rfl) (by kernel_rfl) (fun _ _ _ h => h) (Or.inl ⟨by kernel_rfl, fun w' hS' => by have q := hS'.2.2; go_simp⟩) hS ?_
    refine wpAnyH_ready (rs := [3]) (by kernel_rfl) (by simp) ?_
    refine AllReadyH.cons rfl (fun K hK => ?_) AllReadyH.nil
    rw [if_pos (by kernel_rfl)]
    refine wp_app_copy _ _ rfl (l.drop 2) (by kernel_rfl) _ (by kernel_rfl) (HI2.out _ (Below.refl _ wc).drew) HLD.out.1 HLD.out.2 ?_
    intro v' w2 ho hb
    have ho2 := ho
    rw [List.length_drop] at ho2
    obtain ⟨A', c', rfl⟩ := own_form ho2
    have HO := Lib.hid ho
    clear ho2
    have hgl : g < wc.drew.heap.size := World.block_lt_of_cell? _ _ hS.1
    have hxl : x < wc.drew.heap.size := World.block_lt_of_cell? _ _ hS.2.2
    have hb2 : Below wc.heap.size wc w2 := (Below.refl _ wc).drew.trans hb
    refine hK.out _ _ ⟨(hb.cell (p := ⟨g, o, none⟩) hgl).trans hS.1, (hb.cell (p := ⟨g, o + 1, none⟩) hgl).trans hS.2.1, (hb.cell (p := ⟨x, 1, none⟩) hxl).trans hS.2.2⟩ fun hS2 => ?_
    clear hK
    refine wpAnyH_ready (rs := [14]) (by kernel_rfl) (by simp) ?_
    refine AllReadyH.cons rfl (fun K hK => ?_) AllReadyH.nil
    go_simp
    refine (HSUB.out _).mono ?_
    rintro e w3 ⟨rfl, rfl⟩
    refine hK.out _ _ hS2 fun hS3 => ?_
    clear hK
    refine wpAnyH_take (i := 17) (v := .bool (decide (ag ≤ f.re))) rfl (by kernel_rfl) (by kernel_rfl) (by kernel_rfl) (fun _ _ _ h => h) (Or.inl ⟨by kernel_rfl, fun w' _ => by go_simp⟩) hS3 ?_
    refine wpAnyH_take (i := 18) (v := .agg (valC (.slice A' (l.length - 2) c') ⟨l.drop 2, x0, x1, true, decide (ag ≤ f.re)⟩)) rfl (by kernel_rfl) (by kernel_rfl) (by kernel_rfl) (fun _ _ _ h => h) (Or.inl ⟨by kernel_rfl, fun w' _ => by kernel_rfl⟩) hS3 ?_
    refine wpAnyH_ready (rs := [19]) (by kernel_rfl) (by simp) ?_
    refine AllReadyH.cons rfl (fun K hK => ?_) AllReadyH.nil
    rw [if_pos (by kernel_rfl)]
    have HY2 := Lib.hid (HY.out.below hb2 hyl)
    refine wp_store_row 59 _ _ rfl y (valC (.slice A' (l.length - 2) c') ⟨l.drop 2, x0, x1, true, decide (ag ≤ f.re)⟩) (by kernel_rfl) (by kernel_rfl) 59 _ HY2.out v9info rfl (valC_ones _ _ _ _) ?_
    have hbf : Below w.heap.size w (w2.setRow y (valC (.slice A' (l.length - 2) c') ⟨l.drop 2, x0, x1, true, decide (ag ≤ f.re)⟩)) := below_setRow (HB.out.trans (hb2.mono HB.out.size)) gy _
    have HF := Lib.hid (show WordsAt w.heap.size (w2.setRow y (valC (.slice A' (l.length - 2) c') ⟨l.drop 2, x0, x1, true, decide (ag ≤ f.re)⟩)) (.slice A' (l.length - 2) c') ⟨l.drop 2, x0, x1, true, decide (ag ≤ f.re)⟩ from by
      have hlt := HO.out.lt
      refine ⟨IntsIn.of_own (own_onl (S := fun k => k = y) HO.out ⟨rfl, rfl, rfl, by simp, fun k _ hn => setRow_other _ _ _ _ hn⟩ fun k e f => ?_) rfl, fun k e => ?_⟩
      · have := (hlt k e).1
        have := hb.size
        have h0 : wc.heap.size ≤ wc.drew.heap.size := Nat.le_refl _
        omega
      · have h1 := hlt k e
        have h2 := HB.out.size
        have h0 : wc.heap.size ≤ wc.drew.heap.size := Nat.le_refl _
        exact ⟨by omega, by simpa using h1.2⟩)
    have ngy : g ≠ y := by omega
    refine hK.out _ _ ⟨(cell_setRow_other _ _ _ _ ngy).trans hS3.1, (cell_setRow_other _ _ _ _ ngy).trans hS3.2.1, (cell_setRow_other _ _ _ _ ne).trans hS3.2.2⟩ fun hS4 => ?_
    refine wpAnyH_done (by kernel_rfl) ?_ _
    go_simp
    go_wp2
    (try simp only [Exit.inBlock, Exit.then]); refine bodyPost_ret (res_c1 rfl _ rfl (show Blk (w2.setRow y (valC (.slice A' (l.length - 2) c') ⟨l.drop 2, x0, x1, true, decide (ag ≤ f.re)⟩)) y 59 _ from setRow_heap _ _ _ _ 59 (0, 0) HY2.out) Tryd.underlying59 rfl v9info) rfl ?_
    (try rw [if_neg HZN.out])
    exact ⟨_, rfl, HF.out, hbf⟩
set_option maxRecDepth 100000 in
set_option maxHeartbeats 1600000 in
theorem vsame_any {w : World} {a b : Value} {x : SV} (ha : IntsIn w a x.l) (hb : IntsIn w b x.l) (hl : x.l.length ≤ 65536) :
    Calls Tryd.prog 44 #[.agg (valC a x), .agg (valC b x)] w fun e w' => e = .returned (.bool true) ∧ Below w.heap.size w w' := by
  obtain ⟨A1, c1, rfl⟩ := ha.form
  obtain ⟨A2, c2, rfl⟩ := hb.form
  have HS := Lib.hid (fun (w1 : World) (h : Below w.heap.size w w1) => same_yes (ha.below h) (hb.below h) (by omega))
  have HB := Lib.hid ((below_alloc (w := w) (Nat.le_refl _) (.cells (valC (.slice A1 x.l.length c1) x) 59)).trans (below_alloc (w := w.alloc (.cells (valC (.slice A1 x.l.length c1) x) 59)) (B := w.heap.size) (by simp) (.cells (valC (.slice A2 x.l.length c2) x) 59)))
  clear ha hb
  unfold valC at *
  go_enter Tryd.func44, Tryd.ntmps44
  go_wp2_with fail
  refine (HS.out _ HB.out).mono ?_
  rintro e w' ⟨rfl, nd, rfl⟩
  go_wp2
  go_ret
  exact ⟨by simp, below_drewN HB.out nd⟩
set_option maxRecDepth 100000 in
set_option maxHeartbeats 1600000 in
theorem like_any {w : World} {a b : Value} {x : SV} (ha : IntsIn w a x.l) (hb : IntsIn w b x.l) (hl : x.l.length ≤ 65536) :
    Calls Tryd.prog 23 #[.agg (valC a x), .agg (valC b x)] w fun e w' => e = .returned (.bool true) ∧ Below w.heap.size w w' := by
  obtain ⟨A1, c1, rfl⟩ := ha.form
  obtain ⟨A2, c2, rfl⟩ := hb.form
  have HS := Lib.hid (fun (w1 : World) (h : Below w.heap.size w w1) => vsame_any (ha.below h) (hb.below h) hl)
  have HB := Lib.hid ((below_alloc (w := w) (Nat.le_refl _) (.cells (valC (.slice A1 x.l.length c1) x) 32)).trans (below_alloc (w := w.alloc (.cells (valC (.slice A1 x.l.length c1) x) 32)) (B := w.heap.size) (by simp) (.cells (valC (.slice A2 x.l.length c2) x) 59)))
  clear ha hb
  unfold valC at *
  go_enter Tryd.func23, Tryd.ntmps23
  go_wp2_with fail
  refine (HS.out _ HB.out).mono ?_
  rintro e w' ⟨rfl, hb2⟩
  have HB2 := Lib.hid (HB.out.trans (hb2.mono HB.out.size))
  clear hb2
  go_wp2
  go_ret
  exact ⟨rfl, HB2.out⟩
end Go.Proofs.YtmcelldklmjlkaaDoor
