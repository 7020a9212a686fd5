/- The reference's port: Step. -/
import Derived.Test.YtmcelldklmjlkaaDoorSrefE
import Derived.Test.YtmcelldklmjlkaaDoorSampD
import Derived.Deep.RegionHeld3
namespace Go.Proofs.YtmcelldklmjlkaaDoor
open Go.RowKit

section
variable {P : Program} {fn : Func} {w : World}
theorem res_cc2 {p p2 u u2 g g2 : Nat} {ty ty2 t t2 : TypeId} {cs cs2 : Array Value} {d d2 : TypeDesc} (h : fn.results = #[.cell p ty, .cell p2 ty2, .tmp u, .tmp u2]) (tmps : Array Value) (hp : tmps.getD p undef = .pointer (some ⟨g, 0, none⟩)) (hp2 : tmps.getD p2 undef = .pointer (some ⟨g2, 0, none⟩)) (hg : Blk w g t cs) (hg2 : Blk w g2 t2 cs2)
    (hu : P.underlying ty = some d) (hd : (match d with | .struct _ | .array _ _ => true | _ => false) = true) (hi : (P.info? ty).map (·.size) = some cs.size) (hu2 : P.underlying ty2 = some d2) (hd2 : (match d2 with | .struct _ | .array _ _ => true | _ => false) = true) (hi2 : (P.info? ty2).map (·.size) = some cs2.size) :
    (results fn tmps).run P w = .ok (.tuple #[.agg cs, .agg cs2, tmps.getD u undef, tmps.getD u2 undef]) w := by
  have hp' : tmps[p]?.getD undef = .pointer (some ⟨g, 0, none⟩) := by simpa using hp
  have hp2' : tmps[p2]?.getD undef = .pointer (some ⟨g2, 0, none⟩) := by simpa using hp2
  simp [results, h, hp', hp2', asAddr, Result.andThen, run_loadVar_row w g t ty cs (0, 0) d hg hu hd hi, run_loadVar_row w g2 t2 ty2 cs2 (0, 0) d2 hg2 hu2 hd2 hi2]
end
theorem blk_at {w : World} {n : Nat} {t : TypeId} {cs : Array Value} (hn : n = w.heap.size) : Blk (w.alloc (.cells cs t)) n t cs := by rw [hn]; exact Blk.new w t cs
theorem told_len {s : FS} (hk : s.ok) (h : (s.step false).2.2.1 = true) : (s.step false).2.1.length = s.W := by
  have hw := hk.w1
  change s.stepR.2.2.1 = true at h
  change s.stepR.2.1.length = _
  unfold FS.stepR at h ⊢
  by_cases h0 : s.ow = 0
  · rw [if_pos h0] at h; simp at h
  · rw [if_neg h0] at h ⊢
    have h1 : s.ow = 1 := by simpa using h
    have := hk.ol h0
    simp only [if_pos h1]
    unfold FS.accR
    rw [if_neg (by omega), if_neg (by omega), if_neg (by omega)]
    simp
    omega
theorem pvalue_re {w : World} {f : PF} {re : Int} {vv : SV} {v : Value} {l : List Int} {now : Int} (hre : f.re = re) (hvv : vv = valOf re l now) (hv : IntsIn w v l) (h3 : 3 ≤ l.length) (hl : l.length ≤ 65536) :
    Calls Tryd.prog 43 #[.agg f.cells, v, .int .i64 now] w fun e w' => ∃ u, e = .returned (.agg (valC u vv)) ∧ WordsAt w.heap.size w' u vv ∧ Below w.heap.size w w' := by
  subst hre hvv
  exact pvalue_any hv h3 hl now
/-- Whatever is written into E or made later, what is reached stays. -/
def LaterE (w wx : World) (X E : Nat → Prop) (r' : RF) (s' : FS) (v : Value) (l : List Int) : Prop := ∀ wf : World, (∀ k, k < wx.heap.size → ¬ E k → wf.heap[k]? = wx.heap[k]?) → wx.heap.size ≤ wf.heap.size → RefIn wf (newX X w wf) r' s' ∧ IntsIn wf v l
theorem laterE_of {w wc w2 : World} {X E : Nat → Prop} {r' : RF} {s' : FS} {v : Value} {l : List Int} (hX : ∀ k, X k → k < w.heap.size) (hE : ∀ k, E k → w.heap.size ≤ k ∧ k < wc.heap.size) (hw : w.heap.size ≤ wc.heap.size) (hb : Below wc.heap.size wc w2) (hr : RefIn w2 (newX X wc w2) r' s') (hl : IntsX w2 (newX X wc w2) v l) :
    LaterE w ((w2.alloc (.cells zero19 46)).setRow w2.heap.size r'.cells) X E r' s' v l := fun wf h1 h2 => by
  have hs : ((w2.alloc (.cells zero19 46)).setRow w2.heap.size r'.cells).heap.size = w2.heap.size + 1 := by simp
  have hs2 := hb.size
  rw [hs] at h1 h2
  have key : ∀ {u : Value} {m : List Int}, IntsX w2 (newX X wc w2) u m → IntsX wf (newX X w wf) u m := fun k => by
    refine (k.keep fun g hg => ?_).mono fun g hg => hg.imp id fun e => ⟨by have := e.1; omega, by have := e.2; omega⟩
    have h3 : g < w2.heap.size ∧ ¬ E g := by
      rcases hg with e | e
      · exact ⟨by have := hX g e; omega, fun f => by have := hX g e; have := (hE g f).1; omega⟩
      · exact ⟨e.2, fun f => by have := e.1; have := (hE g f).2; omega⟩
    rw [h1 g (by omega) h3.2, setRow_other _ _ _ _ (by omega), Below.heap_alloc _ _ _ h3.1]
  exact ⟨hr.map fun _ _ k => key k, (key hl).ints⟩
theorem LaterE.put {w wx : World} {X E : Nat → Prop} {x : Nat} {r' : RF} {s' : FS} {v : Value} {l : List Int} (h : LaterE w wx X E r' s' v l) (hx : E x) (r2 : RF) : LaterE w (wx.setCells x 3 r2.cells.toList) X E r' s' v l := fun wf h1 h2 => by
  rw [size_setCells] at h1 h2
  exact h wf (fun k h3 h4 => (h1 k h3 h4).trans (heap_setCells (fun e => h4 (by rw [e]; exact hx)) _ _ _)) h2
set_option maxRecDepth 100000 in
set_option maxHeartbeats 6400000 in
theorem pstep_any {w : World} {X : Nat → Prop} {f : PF} {p : SP} (h : PRefIn w X f p) (hok : p.ok) (hk : p.s.ok) (hX : ∀ k, X k → k < w.heap.size) (b : Bool) (now : Int) :
    Calls Tryd.prog 22 #[f.v, .bool b, .int .i64 now] w fun e w' => ∃ f' u, e = .returned (.tuple #[PF.v f', .agg (valC u (p.val b now)), .bool (p.s.step b).2.2.1, .int .i64 (p.s.step b).2.2.2]) ∧ Below w.heap.size w w' ∧ PRefIn w' (newX X w w') f' (p.stp b) ∧ WordsAt w.heap.size w' u (p.val b now) := by
  have HFR := Lib.hid h.re
  have hWn := hok.W
  have hn1 := hok.n1
  have htl : b = false → (p.s.step b).2.2.1 = true → (p.s.step b).2.1.length = p.s.W := fun e h => by subst e; exact told_len hk h
  have hw6 := hk.w6
  have HSTEP := Lib.hid (fun (w1 : World) (hb : Below w.heap.size w w1) => fstep_any (h.r.map fun _ _ k => k.below hb) hk (fun k e => Nat.lt_of_lt_of_le (hX k e) hb.size) b)
  unfold SP.val SP.stp
  generalize (p.s.step b).1 = s' at *
  generalize (p.s.step b).2.1 = l at *
  generalize (p.s.step b).2.2.1 = d at *
  generalize (p.s.step b).2.2.2 = er at *
  have HC := Lib.hid (And.intro h (And.intro hX htl))
  clear h hX htl
  unfold PF.v
  go_enter Tryd.func22, Tryd.ntmps22
  go_upto_region 0 with (fail)
  go_cut [3, 6, 7, 8, 9] (fun p0 p1 p2 p3 p4 wx => ∃ x y z, p0 = .pointer (some ⟨x, 0, none⟩) ∧ p1 = .pointer (some ⟨y, 0, none⟩) ∧ p2 = .pointer (some ⟨z, 0, none⟩) ∧ p3 = .bool false ∧ p4 = .int .i64 0 ∧ Boxed 48 w wx x y f.cells ∧ Blk wx z 59 (valC (.slice none 0 0) SV.none) ∧ w.heap.size ≤ z ∧ z ≠ x ∧ z ≠ y)
  case first =>
    go_wp2_with fail
    go_meet
    exact ⟨_, _, _, rfl, rfl, rfl, rfl, rfl, (boxed_new w 48 f.cells zero22 rfl).go (below_alloc (Nat.le_refl _) _), blk_at (by simp), by omega, by omega, by omega⟩
  case rest =>
  obtain ⟨x, y, z, rfl, rfl, rfl, rfl, rfl, hB, hz, gz, zx, zy⟩ := hcut
  have HB := Lib.hid hB
  have HZ := Lib.hid hz
  have HM := Lib.hid (PF.mid hB.hx)
  clear hB hz
  go_upto_region 1 with (fail)
  go_cut [10, 11, 12, 13] (fun pq lv dv ev wx => ∃ q r' A c, pq = .pointer (some ⟨q, 0, none⟩) ∧ lv = .slice A l.length c ∧ dv = .bool d ∧ ev = .int .i64 er ∧ Boxed 48 w wx x y f.cells ∧ Blk wx q 46 r'.cells ∧ Blk wx z 59 (valC (.slice none 0 0) SV.none) ∧ LaterE w wx X (fun k => k = x ∨ k = y ∨ k = z) r' s' (.slice A l.length c) l)
  case first =>
    have hxl := HB.out.hx.lt
    have hyl : y < wc.heap.size := by obtain ⟨_, _, hy⟩ := HB.out.hy; exact hy.lt
    have hzl := HZ.out.lt
    go_wp2_with (refine wpList_load_mid rfl 46 _ rfl x 3 rfl f.r.cells.toList _ HM.out Tryd.underlying46 rfl rinfo ?_)
    refine (HSTEP.out _ HB.out.bel).mono ?_
    rintro e w2 ⟨r', A, c, rfl, hb2, hr, hli⟩
    unfold RF.v
    have HL := Lib.hid (laterE_of (E := fun k => k = x ∨ k = y ∨ k = z) HC.out.2.1 (fun k e => by have := HB.out.gx; have := HB.out.gy; rcases e with rfl | rfl | rfl <;> omega) HB.out.bel.size hb2 hr hli)
    have HB1 := Lib.hid (fresh_boxed HB.out hb2 r'.cells)
    have HZ1 := Lib.hid (show Blk ((w2.alloc (.cells zero19 46)).setRow w2.heap.size r'.cells) z 59 (valC (.slice none 0 0) SV.none) from (setRow_other _ _ _ _ (by have := hb2.size; omega)).trans ((Below.heap_alloc _ _ _ (by have := hb2.size; omega)).trans (HZ.out.below hb2 hzl)))
    clear hb2 hr hli HSTEP HM
    go_wp2_with (refine wpList_store_row rfl 46 _ _ rfl w2.heap.size r'.cells rfl rfl 46 zero19 (heap_alloc_new w2 _) rinfo rfl (RF.ones _) ?_)
    go_meet
    exact ⟨_, r', A, c, rfl, rfl, rfl, rfl, HB1.out, setRow_heap _ _ zero19 _ 46 (0, 0) (heap_alloc_new w2 _), HZ1.out, HL.out⟩
  case rest =>
  obtain ⟨q, r', A, c, rfl, rfl, rfl, rfl, hB1, hQ1, hZ1, hL1⟩ := hcut
  have HB1 := Lib.hid hB1
  have HQ1 := Lib.hid hQ1
  have HZ1 := Lib.hid hZ1
  have HL1 := Lib.hid hL1
  clear hB1 hQ1 hZ1 hL1 HB HZ HM HSTEP
  go_upto_region 2 with (fail)
  go_cut [] (fun wx => Boxed 48 w wx x y ({ f with r := r' } : PF).cells ∧ Blk wx z 59 (valC (.slice none 0 0) SV.none) ∧ LaterE w wx X (fun k => k = x ∨ k = y ∨ k = z) r' s' (.slice A l.length c) l)
  case first =>
    go_wp2_with (first
      | (refine wpList_load_row rfl 46 _ rfl q rfl 46 _ (0, 0) _ HQ1.out Tryd.underlying46 rfl rinfo ?_)
      | (refine wpList_store_mid rfl 46 _ _ rfl x 3 r'.cells rfl rfl (PF.there HB1.out.hx) rinfo (RF.ones _) ?_))
    go_meet
    exact ⟨HB1.out.put r', HZ1.out.of (heap_setCells zx _ _ _), HL1.out.put (.inl rfl) r'⟩
  case rest =>
  obtain ⟨hB2, hZ2, hL2⟩ := hcut
  have HB2 := Lib.hid hB2
  have HZ2 := Lib.hid hZ2
  have HL2 := Lib.hid hL2
  obtain ⟨zs, hz, hy⟩ := HB2.out.hy
  have hyl := hy.lt
  have hxl := HB2.out.hx.lt
  have HY := Lib.hid (And.intro hz hy)
  have hzl := HZ2.out.lt
  clear hB2 hZ2 hL2 HB1 HQ1 HZ1 HL1 hz hy
  by_cases hc : d = true ∧ b = false
  · obtain ⟨rfl, rfl⟩ := hc
    have hlW := HC.out.2.2 rfl rfl
    have h3 : 3 ≤ l.length := by omega
    have hl6 : l.length ≤ 65536 := by omega
    clear hlW hWn
    obtain ⟨vv, hvv⟩ : ∃ vv, vv = valOf p.f l now := ⟨_, rfl⟩
    have HPV := Lib.hid (show ∀ w1, IntsIn w1 (.slice A l.length c) l → Calls Tryd.prog 43 #[.agg ({ f with r := r' } : PF).cells, .slice A l.length c, .int .i64 now] w1 fun e w' => ∃ u, e = .returned (.agg (valC u vv)) ∧ WordsAt w1.heap.size w' u vv ∧ Below w1.heap.size w1 w' from fun w1 hv => pvalue_re (f := ({ f with r := r' } : PF)) HFR.out hvv hv h3 hl6)
    have HVAL := Lib.hid hvv.symm
    clear hvv
    go_wp2_with fail
    refine wp_region_held_drew (S := fun w' => Blk w' x 48 ({ f with r := r' } : PF).cells) rfl (show Blk wc.drew x 48 ({ f with r := r' } : PF).cells from HB2.out.hx) fun hS => ?_
    refine wpAnyH_take (i := 0) (v := .agg ({ f with r := r' } : PF).cells) rfl (by kernel_rfl) (by kernel_rfl) (by kernel_rfl) (fun _ _ _ h => h) (Or.inl ⟨by kernel_rfl, fun w' hS' => yields_row 48 _ rfl x rfl hS' Tryd.underlying48 rfl pinfo⟩) hS ?_
    refine wpAnyH_take (i := 1) (v := .agg ({ f with r := r' } : PF).cells) rfl (by kernel_rfl) (by kernel_rfl) (by kernel_rfl) (fun _ _ _ h => h) (Or.inl ⟨by kernel_rfl, fun w' hS' => yields_row 48 _ rfl x rfl hS' Tryd.underlying48 rfl pinfo⟩) hS ?_
    refine wpAnyH_take (i := 2) (v := .slice A l.length c) rfl (by kernel_rfl) (by kernel_rfl) (by kernel_rfl) (fun _ _ _ h => h) (Or.inl ⟨by kernel_rfl, fun w' _ => by go_simp⟩) hS ?_
    refine wpAnyH_take (i := 3) (v := .int .i64 now) rfl (by kernel_rfl) (by kernel_rfl) (by kernel_rfl) (fun _ _ _ h => h) (Or.inl ⟨by kernel_rfl, fun w' _ => by go_simp⟩) hS ?_
    refine wpAnyH_take (i := 5) (v := .int .i64 er) rfl (by kernel_rfl) (by kernel_rfl) (by kernel_rfl) (fun _ _ _ h => h) (Or.inl ⟨by kernel_rfl, fun w' _ => by go_simp⟩) hS ?_
    refine wpAnyH_ready (rs := [4]) (by kernel_rfl) (by simp) ?_
    refine AllReadyH.cons rfl (fun K hK => ?_) AllReadyH.nil
    go_simp
    refine (HPV.out _ (HL2.out wc.drew (fun _ _ _ => rfl) (Nat.le_refl _)).2).mono ?_
    rintro e w3 ⟨u, rfl, hwd, hb3⟩
    obtain ⟨U, cu, rfl⟩ := hwd.1.form
    have hb4 : Below wc.heap.size wc w3 := (Below.refl _ wc).drew.trans hb3
    have hS2' : Blk w3 x 48 ({ f with r := r' } : PF).cells := HB2.out.hx.below hb4 hxl
    refine hK.out _ _ hS2' fun hS2 => ?_
    clear hK
    refine wpAnyH_ready (rs := [6]) (by kernel_rfl) (by simp) ?_
    refine AllReadyH.cons rfl (fun K hK => ?_) AllReadyH.nil
    rw [if_pos (by kernel_rfl)]
    have HY2 := Lib.hid (HY.out.2.below hb4 hyl)
    have HZ3 := Lib.hid (show Blk (w3.setRow y ({ f with r := r' } : PF).cells) z 59 (valC (.slice none 0 0) SV.none) from (setRow_other _ _ _ _ zy).trans (HZ2.out.below hb4 hzl))
    refine wp_store_row 48 _ _ rfl y ({ f with r := r' } : PF).cells (by kernel_rfl) (by kernel_rfl) 48 _ HY2.out pinfo HY.out.1 (PF.ones _) ?_
    refine hK.out _ _ (hS2.of (setRow_other _ _ _ _ HB2.out.ne)) fun hS3 => ?_
    clear hK
    refine wpAnyH_ready (rs := [7]) (by kernel_rfl) (by simp) ?_
    refine AllReadyH.cons rfl (fun K hK => ?_) AllReadyH.nil
    rw [if_pos (by kernel_rfl)]
    refine wp_store_row 59 _ _ rfl z (valC (.slice U vv.l.length cu) vv) (by kernel_rfl) (by kernel_rfl) 59 _ HZ3.out v9info rfl (valC_ones _ _ _ _) ?_
    refine hK.out _ _ (hS3.of (setRow_other _ _ _ _ (Ne.symm zx))) fun hS4 => ?_
    clear hK
    have HYF := Lib.hid (show Blk ((w3.setRow y ({ f with r := r' } : PF).cells).setRow z (valC (.slice U vv.l.length cu) vv)) y 48 ({ f with r := r' } : PF).cells from (setRow_other _ _ _ _ (Ne.symm zy)).trans (setRow_heap _ _ zs _ 48 (0, 0) HY2.out))
    have HZF := Lib.hid (show Blk ((w3.setRow y ({ f with r := r' } : PF).cells).setRow z (valC (.slice U vv.l.length cu) vv)) z 59 _ from setRow_heap _ _ _ _ 59 (0, 0) HZ3.out)
    have HBE := Lib.hid (show Below w.heap.size w ((w3.setRow y ({ f with r := r' } : PF).cells).setRow z (valC (.slice U vv.l.length cu) vv)) from below_setRow (below_setRow (HB2.out.bel.trans (hb4.mono HB2.out.bel.size)) HB2.out.gy _) gz _)
    have HF := Lib.hid (HL2.out ((w3.setRow y ({ f with r := r' } : PF).cells).setRow z (valC (.slice U vv.l.length cu) vv)) (fun k hk hn => by rw [setRow_other _ _ _ _ (fun e => hn (.inr (.inr e))), setRow_other _ _ _ _ (fun e => hn (.inr (.inl e)))]; exact hb4.block k hk) (by have := hb4.size; simpa using this))
    have HWD := Lib.hid (show WordsAt w.heap.size ((w3.setRow y ({ f with r := r' } : PF).cells).setRow z (valC (.slice U vv.l.length cu) vv)) (.slice U vv.l.length cu) vv from ⟨words_onl hwd.1 (S := fun k => k = y ∨ k = z) (fun g hg e => by
      have h1 := (hwd.2 g hg).1
      have h2 : wc.heap.size ≤ wc.drew.heap.size := Nat.le_refl _
      rcases e with rfl | rfl <;> omega) ⟨rfl, rfl, rfl, by simp, fun k _ hn => by rw [setRow_other _ _ _ _ (fun e => hn (.inr e)), setRow_other _ _ _ _ (fun e => hn (.inl e))]⟩, fun g hg => by
      have h1 := hwd.2 g hg
      have h2 : wc.heap.size ≤ wc.drew.heap.size := Nat.le_refl _
      have h3 := HB2.out.bel.size
      exact ⟨by omega, by simpa using h1.2⟩⟩)
    refine wpAnyH_take (i := 8) (v := .bool true) rfl (by kernel_rfl) (by kernel_rfl) (by kernel_rfl) (fun _ _ _ h => h) (Or.inl ⟨by kernel_rfl, fun w' _ => by go_simp⟩) hS4 ?_
    refine wpAnyH_take (i := 9) (v := .int .i64 er) rfl (by kernel_rfl) (by kernel_rfl) (by kernel_rfl) (fun _ _ _ h => h) (Or.inl ⟨by kernel_rfl, fun w' _ => by go_simp⟩) hS4 ?_
    refine wpAnyH_done (by kernel_rfl) ?_ _
    go_simp
    go_wp2
    (try simp only [Exit.inBlock, Exit.then]); refine bodyPost_ret (res_cc2 rfl _ rfl rfl HYF.out HZF.out Tryd.underlying48 rfl pinfo Tryd.underlying59 rfl v9info) rfl ?_
    exact ⟨({ f with r := r' } : PF), .slice U vv.l.length cu, by first | (rw [if_pos ⟨rfl, rfl⟩, HVAL.out]) | (simp [HVAL.out]), HBE.out, ⟨HC.out.1.wo, HC.out.1.re, HC.out.1.se, HF.out.1⟩, by first | (rw [if_pos ⟨rfl, rfl⟩, HVAL.out]; exact HWD.out) | (simpa [HVAL.out] using HWD.out)⟩
  · have hcc : d = false ∨ b = true := by cases d <;> cases b <;> simp_all
    have HCN := Lib.hid hc
    have HYZ := Lib.hid (show Blk (wc.setRow y ({ f with r := r' } : PF).cells) z 59 (valC (.slice none 0 0) SV.none) from (setRow_other _ _ _ _ zy).trans HZ2.out)
    have HYF := Lib.hid (show Blk ((wc.setRow y ({ f with r := r' } : PF).cells).setRow z (valC (.slice none 0 0) SV.none)) y 48 ({ f with r := r' } : PF).cells from (setRow_other _ _ _ _ (Ne.symm zy)).trans HB2.out.row)
    have HZF := Lib.hid (show Blk ((wc.setRow y ({ f with r := r' } : PF).cells).setRow z (valC (.slice none 0 0) SV.none)) z 59 (valC (.slice none 0 0) SV.none) from setRow_heap _ _ _ _ 59 (0, 0) HYZ.out)
    have HBE := Lib.hid (show Below w.heap.size w ((wc.setRow y ({ f with r := r' } : PF).cells).setRow z (valC (.slice none 0 0) SV.none)) from below_setRow HB2.out.end_ gz _)
    have HF := Lib.hid (HL2.out ((wc.setRow y ({ f with r := r' } : PF).cells).setRow z (valC (.slice none 0 0) SV.none)) (fun k _ hn => by rw [setRow_other _ _ _ _ (fun e => hn (.inr (.inr e))), setRow_other _ _ _ _ (fun e => hn (.inr (.inl e)))]) (by simp))
    have hcd : (d && !b) = false := by cases d <;> cases b <;> simp_all
    clear hc
    rcases hcc with rfl | rfl
    all_goals
      go_wp2_with (first
        | (refine wpList_load_row rfl 48 _ rfl x rfl 48 _ (0, 0) _ HB2.out.hx Tryd.underlying48 rfl pinfo ?_)
        | (refine wpList_store_row rfl 48 _ _ rfl y ({ f with r := r' } : PF).cells rfl rfl 48 zs HY.out.2 pinfo HY.out.1 (PF.ones _) ?_)
        | (refine wpList_store_row rfl 59 _ _ rfl z (valC (.slice none 0 0) SV.none) rfl rfl 59 _ HYZ.out v9info rfl (valC_ones _ _ _ _) ?_))
      all_goals
        (try simp only [Exit.inBlock, Exit.then]); refine bodyPost_ret (res_cc2 rfl _ rfl rfl HYF.out HZF.out Tryd.underlying48 rfl pinfo Tryd.underlying59 rfl v9info) rfl ?_
        exact ⟨({ f with r := r' } : PF), .slice none 0 0, by first | rfl | (rw [if_neg HCN.out]; rfl) | simp, HBE.out, ⟨HC.out.1.wo, HC.out.1.re, HC.out.1.se, HF.out.1⟩, by first | exact ⟨IntsIn.nil _, fun g hg => by simp [Value.ownBlock] at hg⟩ | (rw [if_neg HCN.out]; exact ⟨IntsIn.nil _, fun g hg => by simp [Value.ownBlock] at hg⟩)⟩
end Go.Proofs.YtmcelldklmjlkaaDoor
