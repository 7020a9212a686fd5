/- The reference's port: Read, Drop. -/
import Derived.Test.YtmcelldklmjlkaaDoorSrefA
import Derived.Deep.CutBlock
import Derived.Deep.RegionHeld3
import Derived.StillTailTactics
namespace Go.Proofs.YtmcelldklmjlkaaDoor
open Go.RowKit

/-- Whatever is written into x or y, or made later, what is reached stays. -/
def Later (w wx : World) (X : Nat → Prop) (x y : Nat) (r' : RF) (s' : FS) : Prop := ∀ wf : World, (∀ k, k < wx.heap.size → k ≠ x → k ≠ y → wf.heap[k]? = wx.heap[k]?) → wx.heap.size ≤ wf.heap.size → RefIn wf (newX X w wf) r' s'
theorem later_of {w wc w2 : World} {X : Nat → Prop} {x y : Nat} {f : PF} {r' : RF} {s' : FS} (hX : ∀ k, X k → k < w.heap.size) (hB : Boxed 48 w wc x y f.cells) (hb : Below wc.heap.size wc w2) (hr : RefIn w2 (newX X wc w2) r' s') :
    Later w ((w2.alloc (.cells zero19 46)).setRow w2.heap.size r'.cells) X x y r' s' := fun wf h1 h2 => by
  obtain ⟨_, _, hy⟩ := hB.hy
  have hs : ((w2.alloc (.cells zero19 46)).setRow w2.heap.size r'.cells).heap.size = w2.heap.size + 1 := by simp
  rw [hs] at h1 h2
  exact hr.map fun _ _ k => off_keep hX hb.size hB.bel.size hB.gx hB.gy hB.hx.lt hy.lt (fun j h3 h4 h5 => (h1 j (by omega) h4 h5).trans (by rw [setRow_other _ _ _ _ (by omega), Below.heap_alloc _ _ _ h3])) (by omega) k
theorem Later.put {w wx : World} {X : Nat → Prop} {x y : Nat} {r' : RF} {s' : FS} {cs : Array Value} (h : Later w wx X x y r' s') (_ : Boxed 48 w wx x y cs) (r2 : RF) : Later w (wx.setCells x 3 r2.cells.toList) X x y r' s' := fun wf h1 h2 => by
  rw [size_setCells] at h1 h2
  exact h wf (fun k h3 h4 h5 => (h1 k h3 h4 h5).trans (heap_setCells h4 _ _ _)) h2
theorem fresh_boxed {w wc w2 : World} {x y : Nat} {cs : Array Value} (hB : Boxed 48 w wc x y cs) (hb : Below wc.heap.size wc w2) (ds : Array Value) : Boxed 48 w ((w2.alloc (.cells zero19 46)).setRow w2.heap.size ds) x y cs := by
  have h2 := hB.go hb
  obtain ⟨zs, hz, hy⟩ := h2.hy
  have hxl := h2.hx.lt
  have hyl := hy.lt
  exact ⟨(setRow_other _ _ _ _ (by omega)).trans ((Below.heap_alloc _ _ _ hxl).trans h2.hx), ⟨zs, hz, (setRow_other _ _ _ _ (by omega)).trans ((Below.heap_alloc _ _ _ hyl).trans hy)⟩, below_setRow (h2.bel.alloc h2.bel.size _) h2.bel.size _, h2.gx, h2.gy, h2.ne⟩
theorem Boxed.put {w wx : World} {x y : Nat} {f : PF} (h : Boxed 48 w wx x y f.cells) (r' : RF) : Boxed 48 w (wx.setCells x 3 r'.cells.toList) x y ({ f with r := r' } : PF).cells := by
  obtain ⟨zs, hz, hy⟩ := h.hy
  exact ⟨PF.put h.hx r', ⟨zs, hz, hy.of (heap_setCells (Ne.symm h.ne) _ _ _)⟩, below_setCells h.gx _ _ h.bel, h.gx, h.gy, h.ne⟩
set_option maxRecDepth 100000 in
set_option maxHeartbeats 6400000 in
theorem pread_any {w : World} {X : Nat → Prop} {f : PF} {p : SP} (h : PRefIn w X f p) (hX : ∀ k, X k → k < w.heap.size) :
    Calls Tryd.prog 21 #[f.v] w fun e w' => ∃ f', e = .returned (.tuple #[PF.v f', .int .i64 p.rd.2]) ∧ Below w.heap.size w w' ∧ PRefIn w' (newX X w w') f' (p.rd.1) := by
  unfold PF.v
  go_enter Tryd.func21, Tryd.ntmps21
  go_upto_region 0 with (fail)
  go_cut [1, 2, 3] (fun p0 p1 p2 wx => ∃ x y, p0 = .pointer (some ⟨x, 0, none⟩) ∧ p1 = .pointer (some ⟨y, 0, none⟩) ∧ p2 = .int .i64 0 ∧ Boxed 48 w wx x y f.cells)
  case first =>
    go_wp2_with fail
    go_meet
    exact ⟨_, _, rfl, rfl, rfl, boxed_new _ _ _ _ rfl⟩
  case rest =>
    obtain ⟨x, y, rfl, rfl, rfl, hB⟩ := hcut
    have HCALL := Lib.hid (refread_any (h.r.map fun _ _ k => k.below hB.bel))
    have HM := Lib.hid (PF.mid hB.hx)
    have HB := Lib.hid hB
    have HX := Lib.hid (And.intro h hX)
    clear h hB hX
    go_upto_region 1 with (fail)
    go_cut [4, 5] (fun pz v wx => ∃ z r', pz = .pointer (some ⟨z, 0, none⟩) ∧ v = .int .i64 p.rd.2 ∧ Boxed 48 w wx x y f.cells ∧ Blk wx z 46 r'.cells ∧ Later w wx X x y r' (p.rd.1).s)
    case first =>
      go_wp2_with (refine wpList_load_mid rfl 46 _ rfl x 3 rfl f.r.cells.toList _ HM.out Tryd.underlying46 rfl rinfo ?_)
      refine HCALL.out.mono ?_
      rintro e w2 ⟨r', rfl, hb2, hr⟩
      unfold RF.v
      have HL := Lib.hid (later_of HX.out.2 HB.out hb2 hr)
      have HB1 := Lib.hid (fresh_boxed HB.out hb2 r'.cells)
      clear hb2 hr HCALL HM
      go_wp2_with (refine wpList_store_row rfl 46 _ _ rfl w2.heap.size r'.cells rfl rfl 46 zero19 (heap_alloc_new w2 _) rinfo rfl (RF.ones _) ?_)
      go_meet
      exact ⟨_, r', rfl, rfl, HB1.out, setRow_heap _ _ zero19 _ 46 (0, 0) (heap_alloc_new w2 _), HL.out⟩
    case rest =>
    obtain ⟨z, r', rfl, rfl, hB1, hZ1, hL1⟩ := hcut
    have HB1 := Lib.hid hB1
    have HZ1 := Lib.hid hZ1
    have HL1 := Lib.hid hL1
    clear hB1 hZ1 hL1 HB HM HCALL
    go_upto_region 2 with (fail)
    go_cut [] (fun wx => Boxed 48 w wx x y ({ f with r := r' } : PF).cells ∧ Later w wx X x y r' (p.rd.1).s)
    case first =>
      go_wp2_with (first
        | (refine wpList_load_row rfl 46 _ rfl z rfl 46 _ (0, 0) _ HZ1.out Tryd.underlying46 rfl rinfo ?_)
        | (refine wpList_store_mid rfl 46 _ _ rfl x 3 r'.cells rfl rfl (PF.there HB1.out.hx) rinfo (RF.ones _) ?_))
      go_meet
      exact ⟨HB1.out.put r', HL1.out.put HB1.out r'⟩
    case rest =>
      obtain ⟨hB2, hL⟩ := hcut
      have HB2 := Lib.hid hB2
      have HL := Lib.hid hL
      obtain ⟨zs, hz, hy⟩ := HB2.out.hy
      have HY := Lib.hid (And.intro hz hy)
      clear hB2 hL hz hy HB1 HZ1 HL1
      go_wp2_with (first
        | (refine wpList_load_row rfl 48 _ rfl x rfl 48 _ (0, 0) _ HB2.out.hx Tryd.underlying48 rfl pinfo ?_)
        | (refine wpList_store_row rfl 48 _ _ rfl y ({ f with r := r' } : PF).cells rfl rfl 48 zs HY.out.2 pinfo HY.out.1 (PF.ones _) ?_))
      (try simp only [Exit.inBlock, Exit.then]); refine bodyPost_ret (res_c2 rfl _ rfl HB2.out.row Tryd.underlying48 rfl pinfo) rfl ?_
      exact ⟨{ f with r := r' }, rfl, HB2.out.end_, HX.out.1.wo, HX.out.1.re, HX.out.1.se, HL.out _ (fun k _ _ hn => setRow_other _ _ _ _ hn) (by simp)⟩
set_option maxRecDepth 100000 in
set_option maxHeartbeats 6400000 in
theorem pdrop_any {w : World} {X : Nat → Prop} {f : PF} {p : SP} (h : PRefIn w X f p) (hX : ∀ k, X k → k < w.heap.size) (b : Bool) :
    Calls Tryd.prog 24 #[f.v, .bool b] w fun e w' => ∃ f', e = .returned (.tuple #[PF.v f', .bool (decide (0 < p.s.left b))]) ∧ Below w.heap.size w w' ∧ PRefIn w' (newX X w w') f' (p.drp b) := by
  unfold PF.v
  go_enter Tryd.func24, Tryd.ntmps24
  go_upto_region 0 with (fail)
  go_cut [2, 4, 5] (fun p0 p1 p2 wx => ∃ x y, p0 = .pointer (some ⟨x, 0, none⟩) ∧ p1 = .pointer (some ⟨y, 0, none⟩) ∧ p2 = .bool false ∧ Boxed 48 w wx x y f.cells)
  case first =>
    go_wp2_with fail
    go_meet
    exact ⟨_, _, rfl, rfl, rfl, boxed_new _ _ _ _ rfl⟩
  case rest =>
    obtain ⟨x, y, rfl, rfl, rfl, hB⟩ := hcut
    have HCALL := Lib.hid (refdrop_any (h.r.map fun _ _ k => k.below hB.bel) b)
    have HM := Lib.hid (PF.mid hB.hx)
    have HB := Lib.hid hB
    have HX := Lib.hid (And.intro h hX)
    clear h hB hX
    go_upto_region 1 with (fail)
    go_cut [6, 7] (fun pz v wx => ∃ z r', pz = .pointer (some ⟨z, 0, none⟩) ∧ v = .bool (decide (0 < p.s.left b)) ∧ Boxed 48 w wx x y f.cells ∧ Blk wx z 46 r'.cells ∧ Later w wx X x y r' (p.drp b).s)
    case first =>
      go_wp2_with (refine wpList_load_mid rfl 46 _ rfl x 3 rfl f.r.cells.toList _ HM.out Tryd.underlying46 rfl rinfo ?_)
      refine HCALL.out.mono ?_
      rintro e w2 ⟨r', rfl, hb2, hr⟩
      unfold RF.v
      have HL := Lib.hid (later_of HX.out.2 HB.out hb2 hr)
      have HB1 := Lib.hid (fresh_boxed HB.out hb2 r'.cells)
      clear hb2 hr HCALL HM
      go_wp2_with (refine wpList_store_row rfl 46 _ _ rfl w2.heap.size r'.cells rfl rfl 46 zero19 (heap_alloc_new w2 _) rinfo rfl (RF.ones _) ?_)
      go_meet
      exact ⟨_, r', rfl, rfl, HB1.out, setRow_heap _ _ zero19 _ 46 (0, 0) (heap_alloc_new w2 _), HL.out⟩
    case rest =>
    obtain ⟨z, r', rfl, rfl, hB1, hZ1, hL1⟩ := hcut
    have HB1 := Lib.hid hB1
    have HZ1 := Lib.hid hZ1
    have HL1 := Lib.hid hL1
    clear hB1 hZ1 hL1 HB HM HCALL
    go_upto_region 2 with (fail)
    go_cut [] (fun wx => Boxed 48 w wx x y ({ f with r := r' } : PF).cells ∧ Later w wx X x y r' (p.drp b).s)
    case first =>
      go_wp2_with (first
        | (refine wpList_load_row rfl 46 _ rfl z rfl 46 _ (0, 0) _ HZ1.out Tryd.underlying46 rfl rinfo ?_)
        | (refine wpList_store_mid rfl 46 _ _ rfl x 3 r'.cells rfl rfl (PF.there HB1.out.hx) rinfo (RF.ones _) ?_))
      go_meet
      exact ⟨HB1.out.put r', HL1.out.put HB1.out r'⟩
    case rest =>
      obtain ⟨hB2, hL⟩ := hcut
      have HB2 := Lib.hid hB2
      have HL := Lib.hid hL
      obtain ⟨zs, hz, hy⟩ := HB2.out.hy
      have HY := Lib.hid (And.intro hz hy)
      clear hB2 hL hz hy HB1 HZ1 HL1
      go_wp2_with (first
        | (refine wpList_load_row rfl 48 _ rfl x rfl 48 _ (0, 0) _ HB2.out.hx Tryd.underlying48 rfl pinfo ?_)
        | (refine wpList_store_row rfl 48 _ _ rfl y ({ f with r := r' } : PF).cells rfl rfl 48 zs HY.out.2 pinfo HY.out.1 (PF.ones _) ?_))
      (try simp only [Exit.inBlock, Exit.then]); refine bodyPost_ret (res_c2 rfl _ rfl HB2.out.row Tryd.underlying48 rfl pinfo) rfl ?_
      exact ⟨{ f with r := r' }, rfl, HB2.out.end_, HX.out.1.wo, HX.out.1.re, HX.out.1.se, HL.out _ (fun k _ _ hn => setRow_other _ _ _ _ hn) (by simp)⟩
end Go.Proofs.YtmcelldklmjlkaaDoor
