/- The reference's register: writer and reader as one; Step. -/
import Derived.Test.YtmcelldklmjlkaaDoorFrefD
import Derived.Test.YtmcelldklmjlkaaDoorFrefF
import Derived.Test.YtmcelldklmjlkaaDoorFrefG
import Derived.Test.YtmcelldklmjlkaaDoorFrefH
import Derived.Deep.CutBlock
import Derived.Deep.RegionHeld3
import Derived.Deep.MidRow
import Derived.StillTailTactics
namespace Go.Proofs.YtmcelldklmjlkaaDoor
open Go.RowKit

theorem writer_any {w : World} {X : Nat → Prop} {r : RF} {s : FS} (h : RefIn w X r s) (hk : s.ok) (h0 : s.iw ≠ 0) :
    Calls Tryd.prog 66 #[r.v] w fun e w' => ∃ r', e = .returned (.tuple #[RF.v r', .bool (decide (s.iw = 1))]) ∧ Below w.heap.size w w' ∧ RefIn w' (newX X w w') r' { s.accW with iw := s.iw - 1 } := by
  by_cases e1 : s.iw = s.W + 4
  · exact refw1 h hk e1
  by_cases e2 : s.iw = s.W + 3
  · exact refw2 h hk e2
  by_cases e3 : 2 < s.iw
  · exact refw3 h hk e3 (by have := hk.iw; omega)
  by_cases e4 : s.iw = 2
  · exact refw4 h hk e4
  · exact refw5 h hk (by omega)
theorem reader_any {w : World} {X : Nat → Prop} {r : RF} {s : FS} (h : RefIn w X r s) (hk : s.ok) (h0 : s.ow ≠ 0) :
    Calls Tryd.prog 67 #[r.v] w fun e w' => ∃ r', e = .returned (.tuple #[RF.v r', .bool (decide (s.ow = 1))]) ∧ Below w.heap.size w w' ∧ RefIn w' (newX X w w') r' { s.accR with ow := s.ow - 1 } ∧ (s.ow = 1 → r'.out.n = s.accR.ol.length ∧ IntsX w' (newX X w w') r'.out.v s.accR.ol) := by
  have hW := hk.w1
  by_cases e1 : s.ow = s.W + 3
  · exact (refr1 h hk e1).mono fun e w' ⟨r', he, hb, hr⟩ => ⟨r', he, hb, hr, fun q => by omega⟩
  by_cases e2 : s.ow = s.W + 2
  · exact (refr2 h hk e2).mono fun e w' ⟨r', he, hb, hr⟩ => ⟨r', he, hb, hr, fun q => by omega⟩
  by_cases e3 : s.ow = s.W + 1
  · exact (refr3 h hk e3).mono fun e w' ⟨r', he, hb, hr⟩ => ⟨r', he, hb, hr, fun q => by omega⟩
  by_cases e4 : 1 < s.ow
  · exact (refr4 h hk e4 (by have := hk.ow; omega)).mono fun e w' ⟨r', he, hb, hr⟩ => ⟨r', he, hb, hr, fun q => by omega⟩
  · exact (refr5 h hk (by omega)).mono fun e w' ⟨r', he, hb, hr, hn, hi⟩ => ⟨r', he, hb, hr, fun _ => ⟨hn, hi⟩⟩
/-- What was made behind wc stays where a fresh variable, and the result's box, are written. -/
theorem fin_keep {w wc w2 : World} {X : Nat → Prop} {y : Nat} {cs zs : Array Value} (hX : ∀ k, X k → k < w.heap.size) (hc : w.heap.size ≤ wc.heap.size) (hs : wc.heap.size ≤ w2.heap.size) (hy : w.heap.size ≤ y) (hyc : y < wc.heap.size)
    {v : Value} {l : List Int} (h : IntsX w2 (newX X wc w2) v l) : IntsX (((w2.alloc (.cells zs 46)).setRow w2.heap.size cs).setRow y cs) (newX X w (((w2.alloc (.cells zs 46)).setRow w2.heap.size cs).setRow y cs)) v l := by
  refine (h.keep fun g hg => ?_).mono fun g hg => hg.imp id fun e => ⟨by have := e.1; omega, by have := e.2; simp; omega⟩
  have h1 : g < w2.heap.size ∧ g ≠ y := by
    rcases hg with e | e
    · have := hX g e; omega
    · have := e.1; have := e.2; omega
  rw [setRow_other _ _ _ _ h1.2, setRow_other _ _ _ _ (by omega), Below.heap_alloc _ _ _ h1.1]
set_option maxRecDepth 100000 in
set_option maxHeartbeats 6400000 in
theorem fstep1 {w : World} {X : Nat → Prop} {r : RF} {s : FS} (h : RefIn w X r s)  (h0 : s.iw = 0) :
    Calls Tryd.prog 42 #[r.v, .bool true] w fun e w' => ∃ r' A c, e = .returned (.tuple #[RF.v r', .slice A (s.step true).2.1.length c, .bool (s.step true).2.2.1, .int .i64 (s.step true).2.2.2]) ∧ Below w.heap.size w w' ∧ RefIn w' (newX X w w') r' (s.step true).1 ∧ IntsX w' (newX X w w') (.slice A (s.step true).2.1.length c) (s.step true).2.1 := by
  rw [show s.step true = (s, [], false, 2) by show s.stepW = _; unfold FS.stepW; rw [if_pos h0]]
  have hp : r.wr = false := by rw [h.wr]; simp [h0]
  unfold RF.v
  go_enter Tryd.func42, Tryd.ntmps42
  go_upto_region 0 with (fail)
  go_cut [2, 4, 5, 6, 7] (fun p0 p1 p2 p3 p4 wx => ∃ x y, p0 = .pointer (some ⟨x, 0, none⟩) ∧ p1 = .pointer (some ⟨y, 0, none⟩) ∧ p2 = .slice none 0 0 ∧ p3 = .bool false ∧ p4 = .int .i64 0 ∧ Boxed 46 w wx x y r.cells)
  case first =>
    go_wp2_with fail
    go_meet
    exact ⟨_, _, rfl, rfl, rfl, rfl, rfl, boxed_new _ _ _ _ rfl⟩
  case rest =>
    obtain ⟨x, y, rfl, rfl, rfl, rfl, rfl, hB⟩ := hcut
    have HR := Lib.hid (show ∀ w', Below w.heap.size w w' → RefIn w' (newX X w w') r s from fun w' hb => h.go hb)
    have k_wr : wc.cell? ⟨x, 9, none⟩ = some (.bool r.wr) := (hB.hx.cell 9).trans rfl
    rw [hp] at k_wr
    have HB2 := Lib.hid hB
    obtain ⟨zs, hz, hy⟩ := HB2.out.hy
    have HY := Lib.hid (And.intro hz hy)
    clear h hp hB hz hy
    go_wp2_with (first
      | ((with_reducible change wpList _ _ _ _ _ (wc)); refine wpList_load_row rfl 46 _ rfl x rfl 46 _ (0, 0) _ HB2.out.hx Tryd.underlying46 rfl rinfo ?_)
      | ((with_reducible change wpList _ _ _ _ _ (wc)); refine wpList_store_row rfl 46 _ _ rfl y _ rfl rfl 46 zs HY.out.2 rinfo HY.out.1 (RF.ones _) ?_))
    (try simp only [Exit.inBlock, Exit.then]); refine bodyPost_ret (res_c4 rfl _ rfl HB2.out.row Tryd.underlying46 rfl rinfo) rfl ?_
    exact ⟨_, none, 0, rfl, HB2.out.end_, HR.out _ HB2.out.end_, IntsX.nil _ _⟩
set_option maxRecDepth 100000 in
set_option maxHeartbeats 6400000 in
theorem fstep2 {w : World} {X : Nat → Prop} {r : RF} {s : FS} (h : RefIn w X r s)  (h0 : s.ow = 0) :
    Calls Tryd.prog 42 #[r.v, .bool false] w fun e w' => ∃ r' A c, e = .returned (.tuple #[RF.v r', .slice A (s.step false).2.1.length c, .bool (s.step false).2.2.1, .int .i64 (s.step false).2.2.2]) ∧ Below w.heap.size w w' ∧ RefIn w' (newX X w w') r' (s.step false).1 ∧ IntsX w' (newX X w w') (.slice A (s.step false).2.1.length c) (s.step false).2.1 := by
  rw [show s.step false = (s, [], false, 2) by show s.stepR = _; unfold FS.stepR; rw [if_pos h0]]
  have hp : r.rd = false := by rw [h.rd]; simp [h0]
  unfold RF.v
  go_enter Tryd.func42, Tryd.ntmps42
  go_upto_region 0 with (fail)
  go_cut [2, 4, 5, 6, 7] (fun p0 p1 p2 p3 p4 wx => ∃ x y, p0 = .pointer (some ⟨x, 0, none⟩) ∧ p1 = .pointer (some ⟨y, 0, none⟩) ∧ p2 = .slice none 0 0 ∧ p3 = .bool false ∧ p4 = .int .i64 0 ∧ Boxed 46 w wx x y r.cells)
  case first =>
    go_wp2_with fail
    go_meet
    exact ⟨_, _, rfl, rfl, rfl, rfl, rfl, boxed_new _ _ _ _ rfl⟩
  case rest =>
    obtain ⟨x, y, rfl, rfl, rfl, rfl, rfl, hB⟩ := hcut
    have HR := Lib.hid (show ∀ w', Below w.heap.size w w' → RefIn w' (newX X w w') r s from fun w' hb => h.go hb)
    have k_rd : wc.cell? ⟨x, 10, none⟩ = some (.bool r.rd) := (hB.hx.cell 10).trans rfl
    rw [hp] at k_rd
    have HB2 := Lib.hid hB
    obtain ⟨zs, hz, hy⟩ := HB2.out.hy
    have HY := Lib.hid (And.intro hz hy)
    clear h hp hB hz hy
    go_wp2_with (first
      | ((with_reducible change wpList _ _ _ _ _ (wc)); refine wpList_load_row rfl 46 _ rfl x rfl 46 _ (0, 0) _ HB2.out.hx Tryd.underlying46 rfl rinfo ?_)
      | ((with_reducible change wpList _ _ _ _ _ (wc)); refine wpList_store_row rfl 46 _ _ rfl y _ rfl rfl 46 zs HY.out.2 rinfo HY.out.1 (RF.ones _) ?_))
    (try simp only [Exit.inBlock, Exit.then]); refine bodyPost_ret (res_c4 rfl _ rfl HB2.out.row Tryd.underlying46 rfl rinfo) rfl ?_
    exact ⟨_, none, 0, rfl, HB2.out.end_, HR.out _ HB2.out.end_, IntsX.nil _ _⟩
set_option maxRecDepth 100000 in
set_option maxHeartbeats 6400000 in
theorem fstep3 {w : World} {X : Nat → Prop} {r : RF} {s : FS} (h : RefIn w X r s) (hk : s.ok) (hX : ∀ k, X k → k < w.heap.size) (h0 : s.iw ≠ 0) :
    Calls Tryd.prog 42 #[r.v, .bool true] w fun e w' => ∃ r' A c, e = .returned (.tuple #[RF.v r', .slice A (s.step true).2.1.length c, .bool (s.step true).2.2.1, .int .i64 (s.step true).2.2.2]) ∧ Below w.heap.size w w' ∧ RefIn w' (newX X w w') r' (s.step true).1 ∧ IntsX w' (newX X w w') (.slice A (s.step true).2.1.length c) (s.step true).2.1 := by
  rw [show s.step true = ({ s.accW with iw := s.iw - 1 }, [], decide (s.iw = 1), 0) by show s.stepW = _; unfold FS.stepW; rw [if_neg h0]]
  have hp : r.wr = true := h.wrt h0
  obtain ⟨dn, hdn⟩ : ∃ dn, dn = decide (s.iw = 1) := ⟨_, rfl⟩
  rw [← hdn]
  unfold RF.v
  go_enter Tryd.func42, Tryd.ntmps42
  go_upto_region 0 with (fail)
  go_cut [2, 4, 5, 6, 7] (fun p0 p1 p2 p3 p4 wx => ∃ x y, p0 = .pointer (some ⟨x, 0, none⟩) ∧ p1 = .pointer (some ⟨y, 0, none⟩) ∧ p2 = .slice none 0 0 ∧ p3 = .bool false ∧ p4 = .int .i64 0 ∧ Boxed 46 w wx x y r.cells)
  case first =>
    go_wp2_with fail
    go_meet
    exact ⟨_, _, rfl, rfl, rfl, rfl, rfl, boxed_new _ _ _ _ rfl⟩
  case rest =>
    obtain ⟨x, y, rfl, rfl, rfl, rfl, rfl, hB⟩ := hcut
    have k_wr : wc.cell? ⟨x, 9, none⟩ = some (.bool r.wr) := (hB.hx.cell 9).trans rfl
    rw [hp] at k_wr
    have HCALL := Lib.hid (writer_any (h.map fun _ _ k => k.below hB.bel) hk h0)
    rw [← hdn] at HCALL
    clear hdn hk h0
    have HX := Lib.hid (And.intro hX (And.intro hB.bel.size hB.gy))
    have hyl : y < wc.heap.size := by obtain ⟨_, _, hy⟩ := hB.hy; exact hy.lt
    have HB := Lib.hid hB
    clear h hp hB hX
    go_wp2_with (refine wpList_load_row rfl 46 _ rfl x rfl 46 _ (0, 0) _ HB.out.hx Tryd.underlying46 rfl rinfo ?_)
    refine HCALL.out.mono ?_
    rintro e w2 ⟨r', rfl, hb2, hr⟩
    unfold RF.v
    have HS2 := Lib.hid hb2.size
    have hb3 : Below w.heap.size w (w2.alloc (.cells zero19 46)) := (HB.out.go hb2).bel.alloc (HB.out.go hb2).bel.size _
    have HBE := Lib.hid (below_setRow (below_setRow hb3 (Nat.le_trans HB.out.bel.size hb2.size) r'.cells) HB.out.gy r'.cells)
    have HZ := Lib.hid (show Blk (w2.alloc (.cells zero19 46)) w2.heap.size 46 zero19 from heap_alloc_new w2 _)
    have HZ1 := Lib.hid (show Blk ((w2.alloc (.cells zero19 46)).setRow w2.heap.size r'.cells) w2.heap.size 46 r'.cells from setRow_heap _ _ zero19 _ 46 (0, 0) (heap_alloc_new w2 _))
    obtain ⟨zs, hz, hy⟩ := ((HB.out.go hb2).hy)
    have hylt : y < w2.heap.size := hy.lt
    have HY := Lib.hid (And.intro hz (show Blk ((w2.alloc (.cells zero19 46)).setRow w2.heap.size r'.cells) y 46 zs from (setRow_other _ _ _ _ (Nat.ne_of_lt hylt)).trans ((Below.heap_alloc _ _ _ hylt).trans hy)))
    have HYF := Lib.hid (show Blk (((w2.alloc (.cells zero19 46)).setRow w2.heap.size r'.cells).setRow y r'.cells) y 46 r'.cells from setRow_heap _ _ zs _ 46 (0, 0) HY.out.2)
    have HRF := Lib.hid (show RefIn (((w2.alloc (.cells zero19 46)).setRow w2.heap.size r'.cells).setRow y r'.cells) (newX X w (((w2.alloc (.cells zero19 46)).setRow w2.heap.size r'.cells).setRow y r'.cells)) r' { s.accW with iw := s.iw - 1 } from hr.map fun _ _ k => fin_keep HX.out.1 HX.out.2.1 HS2.out HX.out.2.2 hyl k)
    clear hr hb2 hb3 hz hy HCALL
    go_wp2_with (first
      | (refine wpList_load_row rfl 46 _ rfl w2.heap.size rfl 46 _ (0, 0) _ HZ1.out Tryd.underlying46 rfl rinfo ?_)
      | (refine wpList_store_row rfl 46 _ _ rfl w2.heap.size r'.cells rfl rfl 46 zero19 (heap_alloc_new w2 _) rinfo rfl (RF.ones _) ?_)
      | (refine wpList_store_row rfl 46 _ _ rfl y r'.cells rfl rfl 46 zs HY.out.2 rinfo HY.out.1 (RF.ones _) ?_))
    (try simp only [Exit.inBlock, Exit.then]); refine bodyPost_ret (res_c4 rfl _ rfl HYF.out Tryd.underlying46 rfl rinfo) rfl ?_
    exact ⟨r', none, 0, rfl, HBE.out, HRF.out, IntsX.nil _ _⟩
set_option maxRecDepth 100000 in
set_option maxHeartbeats 6400000 in
theorem fstep4 {w : World} {X : Nat → Prop} {r : RF} {s : FS} (h : RefIn w X r s) (hk : s.ok) (hX : ∀ k, X k → k < w.heap.size) (h0 : s.ow ≠ 0) (h1 : s.ow ≠ 1) :
    Calls Tryd.prog 42 #[r.v, .bool false] w fun e w' => ∃ r' A c, e = .returned (.tuple #[RF.v r', .slice A (s.step false).2.1.length c, .bool (s.step false).2.2.1, .int .i64 (s.step false).2.2.2]) ∧ Below w.heap.size w w' ∧ RefIn w' (newX X w w') r' (s.step false).1 ∧ IntsX w' (newX X w w') (.slice A (s.step false).2.1.length c) (s.step false).2.1 := by
  rw [show s.step false = ({ s.accR with ow := s.ow - 1 }, [], false, 0) by show s.stepR = _; unfold FS.stepR; rw [if_neg h0, if_neg h1]; simp [h1]]
  have hp : r.rd = true := h.rdt h0
  unfold RF.v
  go_enter Tryd.func42, Tryd.ntmps42
  go_upto_region 0 with (fail)
  go_cut [2, 4, 5, 6, 7] (fun p0 p1 p2 p3 p4 wx => ∃ x y, p0 = .pointer (some ⟨x, 0, none⟩) ∧ p1 = .pointer (some ⟨y, 0, none⟩) ∧ p2 = .slice none 0 0 ∧ p3 = .bool false ∧ p4 = .int .i64 0 ∧ Boxed 46 w wx x y r.cells)
  case first =>
    go_wp2_with fail
    go_meet
    exact ⟨_, _, rfl, rfl, rfl, rfl, rfl, boxed_new _ _ _ _ rfl⟩
  case rest =>
    obtain ⟨x, y, rfl, rfl, rfl, rfl, rfl, hB⟩ := hcut
    have k_rd : wc.cell? ⟨x, 10, none⟩ = some (.bool r.rd) := (hB.hx.cell 10).trans rfl
    rw [hp] at k_rd
    have HCALL := Lib.hid (reader_any (h.map fun _ _ k => k.below hB.bel) hk h0)
    rw [show decide (s.ow = 1) = false by simp [h1]] at HCALL
    clear hk h0 h1
    have HX := Lib.hid (And.intro hX (And.intro hB.bel.size hB.gy))
    have hyl : y < wc.heap.size := by obtain ⟨_, _, hy⟩ := hB.hy; exact hy.lt
    have HB := Lib.hid hB
    clear h hp hB hX
    go_wp2_with (refine wpList_load_row rfl 46 _ rfl x rfl 46 _ (0, 0) _ HB.out.hx Tryd.underlying46 rfl rinfo ?_)
    refine HCALL.out.mono ?_
    rintro e w2 ⟨r', rfl, hb2, hr, -⟩
    unfold RF.v
    have HS2 := Lib.hid hb2.size
    have hb3 : Below w.heap.size w (w2.alloc (.cells zero19 46)) := (HB.out.go hb2).bel.alloc (HB.out.go hb2).bel.size _
    have HBE := Lib.hid (below_setRow (below_setRow hb3 (Nat.le_trans HB.out.bel.size hb2.size) r'.cells) HB.out.gy r'.cells)
    have HZ := Lib.hid (show Blk (w2.alloc (.cells zero19 46)) w2.heap.size 46 zero19 from heap_alloc_new w2 _)
    have HZ1 := Lib.hid (show Blk ((w2.alloc (.cells zero19 46)).setRow w2.heap.size r'.cells) w2.heap.size 46 r'.cells from setRow_heap _ _ zero19 _ 46 (0, 0) (heap_alloc_new w2 _))
    obtain ⟨zs, hz, hy⟩ := ((HB.out.go hb2).hy)
    have hylt : y < w2.heap.size := hy.lt
    have HY := Lib.hid (And.intro hz (show Blk ((w2.alloc (.cells zero19 46)).setRow w2.heap.size r'.cells) y 46 zs from (setRow_other _ _ _ _ (Nat.ne_of_lt hylt)).trans ((Below.heap_alloc _ _ _ hylt).trans hy)))
    have HYF := Lib.hid (show Blk (((w2.alloc (.cells zero19 46)).setRow w2.heap.size r'.cells).setRow y r'.cells) y 46 r'.cells from setRow_heap _ _ zs _ 46 (0, 0) HY.out.2)
    have HRF := Lib.hid (show RefIn (((w2.alloc (.cells zero19 46)).setRow w2.heap.size r'.cells).setRow y r'.cells) (newX X w (((w2.alloc (.cells zero19 46)).setRow w2.heap.size r'.cells).setRow y r'.cells)) r' { s.accR with ow := s.ow - 1 } from hr.map fun _ _ k => fin_keep HX.out.1 HX.out.2.1 HS2.out HX.out.2.2 hyl k)
    clear hr hb2 hb3 hz hy HCALL
    go_wp2_with (first
      | (refine wpList_load_row rfl 46 _ rfl w2.heap.size rfl 46 _ (0, 0) _ HZ1.out Tryd.underlying46 rfl rinfo ?_)
      | (refine wpList_store_row rfl 46 _ _ rfl w2.heap.size r'.cells rfl rfl 46 zero19 (heap_alloc_new w2 _) rinfo rfl (RF.ones _) ?_)
      | (refine wpList_store_row rfl 46 _ _ rfl y r'.cells rfl rfl 46 zs HY.out.2 rinfo HY.out.1 (RF.ones _) ?_))
    (try simp only [Exit.inBlock, Exit.then]); refine bodyPost_ret (res_c4 rfl _ rfl HYF.out Tryd.underlying46 rfl rinfo) rfl ?_
    exact ⟨r', none, 0, rfl, HBE.out, HRF.out, IntsX.nil _ _⟩
set_option maxRecDepth 100000 in
set_option maxHeartbeats 6400000 in
theorem fstep5 {w : World} {X : Nat → Prop} {r : RF} {s : FS} (h : RefIn w X r s) (hk : s.ok) (hX : ∀ k, X k → k < w.heap.size) (h1 : s.ow = 1) :
    Calls Tryd.prog 42 #[r.v, .bool false] w fun e w' => ∃ r' A c, e = .returned (.tuple #[RF.v r', .slice A (s.step false).2.1.length c, .bool (s.step false).2.2.1, .int .i64 (s.step false).2.2.2]) ∧ Below w.heap.size w w' ∧ RefIn w' (newX X w w') r' (s.step false).1 ∧ IntsX w' (newX X w w') (.slice A (s.step false).2.1.length c) (s.step false).2.1 := by
  have h0 : s.ow ≠ 0 := by omega
  rw [show s.step false = ({ s.accR with ow := s.ow - 1 }, s.accR.ol, true, 0) by show s.stepR = _; unfold FS.stepR; rw [if_neg h0, if_pos h1]; simp [h1]]
  have hp : r.rd = true := h.rdt h0
  unfold RF.v
  go_enter Tryd.func42, Tryd.ntmps42
  go_upto_region 0 with (fail)
  go_cut [2, 4, 5, 6, 7] (fun p0 p1 p2 p3 p4 wx => ∃ x y, p0 = .pointer (some ⟨x, 0, none⟩) ∧ p1 = .pointer (some ⟨y, 0, none⟩) ∧ p2 = .slice none 0 0 ∧ p3 = .bool false ∧ p4 = .int .i64 0 ∧ Boxed 46 w wx x y r.cells)
  case first =>
    go_wp2_with fail
    go_meet
    exact ⟨_, _, rfl, rfl, rfl, rfl, rfl, boxed_new _ _ _ _ rfl⟩
  case rest =>
    obtain ⟨x, y, rfl, rfl, rfl, rfl, rfl, hB⟩ := hcut
    have k_rd : wc.cell? ⟨x, 10, none⟩ = some (.bool r.rd) := (hB.hx.cell 10).trans rfl
    rw [hp] at k_rd
    have HCALL := Lib.hid (reader_any (h.map fun _ _ k => k.below hB.bel) hk h0)
    rw [show decide (s.ow = 1) = true by simp [h1]] at HCALL
    have HE1 := Lib.hid h1
    clear hk h0 h1
    have HX := Lib.hid (And.intro hX (And.intro hB.bel.size hB.gy))
    have hyl : y < wc.heap.size := by obtain ⟨_, _, hy⟩ := hB.hy; exact hy.lt
    have HB := Lib.hid hB
    clear h hp hB hX
    go_wp2_with (refine wpList_load_row rfl 46 _ rfl x rfl 46 _ (0, 0) _ HB.out.hx Tryd.underlying46 rfl rinfo ?_)
    refine HCALL.out.mono ?_
    rintro e w2 ⟨r', rfl, hb2, hr, ho⟩
    unfold RF.v
    have HS2 := Lib.hid hb2.size
    have hb3 : Below w.heap.size w (w2.alloc (.cells zero19 46)) := (HB.out.go hb2).bel.alloc (HB.out.go hb2).bel.size _
    have HBE := Lib.hid (below_setRow (below_setRow hb3 (Nat.le_trans HB.out.bel.size hb2.size) r'.cells) HB.out.gy r'.cells)
    have HZ := Lib.hid (show Blk (w2.alloc (.cells zero19 46)) w2.heap.size 46 zero19 from heap_alloc_new w2 _)
    have HZ1 := Lib.hid (show Blk ((w2.alloc (.cells zero19 46)).setRow w2.heap.size r'.cells) w2.heap.size 46 r'.cells from setRow_heap _ _ zero19 _ 46 (0, 0) (heap_alloc_new w2 _))
    obtain ⟨zs, hz, hy⟩ := ((HB.out.go hb2).hy)
    have hylt : y < w2.heap.size := hy.lt
    have HY := Lib.hid (And.intro hz (show Blk ((w2.alloc (.cells zero19 46)).setRow w2.heap.size r'.cells) y 46 zs from (setRow_other _ _ _ _ (Nat.ne_of_lt hylt)).trans ((Below.heap_alloc _ _ _ hylt).trans hy)))
    have HYF := Lib.hid (show Blk (((w2.alloc (.cells zero19 46)).setRow w2.heap.size r'.cells).setRow y r'.cells) y 46 r'.cells from setRow_heap _ _ zs _ 46 (0, 0) HY.out.2)
    have HRF := Lib.hid (show RefIn (((w2.alloc (.cells zero19 46)).setRow w2.heap.size r'.cells).setRow y r'.cells) (newX X w (((w2.alloc (.cells zero19 46)).setRow w2.heap.size r'.cells).setRow y r'.cells)) r' { s.accR with ow := s.ow - 1 } from hr.map fun _ _ k => fin_keep HX.out.1 HX.out.2.1 HS2.out HX.out.2.2 hyl k)
    have HOF := Lib.hid (ho HE1.out).1
    have HLF := Lib.hid (show IntsX (((w2.alloc (.cells zero19 46)).setRow w2.heap.size r'.cells).setRow y r'.cells) (newX X w (((w2.alloc (.cells zero19 46)).setRow w2.heap.size r'.cells).setRow y r'.cells)) r'.out.v s.accR.ol from fin_keep HX.out.1 HX.out.2.1 HS2.out HX.out.2.2 hyl (ho HE1.out).2)
    clear hr hb2 hb3 hz hy HCALL ho HE1
    go_wp2_with (first
      | (refine wpList_load_row rfl 46 _ rfl w2.heap.size rfl 46 _ (0, 0) _ HZ1.out Tryd.underlying46 rfl rinfo ?_)
      | (refine wpList_store_row rfl 46 _ _ rfl w2.heap.size r'.cells rfl rfl 46 zero19 (heap_alloc_new w2 _) rinfo rfl (RF.ones _) ?_)
      | (refine wpList_store_row rfl 46 _ _ rfl y r'.cells rfl rfl 46 zs HY.out.2 rinfo HY.out.1 (RF.ones _) ?_))
    refine wp_region_held_drew (S := fun w' => Blk w' w2.heap.size 46 r'.cells) rfl (show Blk (((w2.alloc (.cells zero19 46)).setRow w2.heap.size r'.cells)).drew w2.heap.size 46 r'.cells from HZ1.out) fun hS => ?_
    refine wpAnyH_take (i := 0) (v := .agg r'.cells) rfl (by kernel_rfl) (by kernel_rfl) (by kernel_rfl) (fun _ _ _ h => h) (Or.inl ⟨by kernel_rfl, fun w' hS' => yields_row 46 _ rfl w2.heap.size rfl hS' Tryd.underlying46 rfl rinfo⟩) hS ?_
    refine wpAnyH_take (i := 1) (v := .pointer (some ⟨w2.heap.size, 18, none⟩)) rfl (by kernel_rfl) (by kernel_rfl) (by kernel_rfl) (fun _ _ _ h => h) (Or.inl ⟨by kernel_rfl, fun w' _ => by go_simp⟩) hS ?_
    refine wpAnyH_take (i := 2) (v := .slice r'.out.A r'.out.n r'.out.c) rfl (by kernel_rfl) (by kernel_rfl) (by kernel_rfl) (fun _ _ _ h => h) (Or.inl ⟨by kernel_rfl, fun w' hS' => by have q : w'.cell? ⟨w2.heap.size, 18, none⟩ = some (.slice r'.out.A r'.out.n r'.out.c) := (hS'.cell 18).trans rfl; go_simp⟩) hS ?_
    refine wpAnyH_ready (rs := [3]) (by kernel_rfl) (by simp) ?_
    refine AllReadyH.cons rfl (fun K hK => ?_) AllReadyH.nil
    rw [if_pos (by kernel_rfl)]
    refine wp_store_row 46 _ _ rfl y _ rfl rfl 46 zs HY.out.2 rinfo HY.out.1 (RF.ones _) ?_
    refine hK.out _ _ (hS.of (setRow_other _ _ _ _ (by omega))) fun hS2 => ?_
    clear hK
    refine wpAnyH_take (i := 4) (v := .slice r'.out.A r'.out.n r'.out.c) rfl (by kernel_rfl) (by kernel_rfl) (by kernel_rfl) (fun _ _ _ h => h) (Or.inl ⟨by kernel_rfl, fun w' _ => by go_simp⟩) hS2 ?_
    refine wpAnyH_take (i := 5) (v := .bool true) rfl (by kernel_rfl) (by kernel_rfl) (by kernel_rfl) (fun _ _ _ h => h) (Or.inl ⟨by kernel_rfl, fun w' _ => by go_simp⟩) hS2 ?_
    refine wpAnyH_take (i := 6) (v := .int .i64 0) rfl (by kernel_rfl) (by kernel_rfl) (by kernel_rfl) (fun _ _ _ h => h) (Or.inl ⟨by kernel_rfl, fun w' _ => by go_simp⟩) hS2 ?_
    refine wpAnyH_done (by kernel_rfl) ?_ _
    go_simp
    go_wp2
    (try simp only [Exit.inBlock, Exit.then]); refine bodyPost_ret (res_c4 rfl _ rfl (show Blk _ y 46 r'.cells from HYF.out) Tryd.underlying46 rfl rinfo) rfl ?_
    exact ⟨r', r'.out.A, r'.out.c, by rw [← HOF.out]; rfl, HBE.out.drew, (HRF.out.map fun _ _ k => (k.keep fun _ _ => rfl).mono fun _ e => e), by rw [← HOF.out]; exact (HLF.out.keep fun _ _ => rfl).mono fun _ e => e⟩
theorem fstep_any {w : World} {X : Nat → Prop} {r : RF} {s : FS} (h : RefIn w X r s) (hk : s.ok) (hX : ∀ k, X k → k < w.heap.size) (b : Bool) :
    Calls Tryd.prog 42 #[r.v, .bool b] w fun e w' => ∃ r' A c, e = .returned (.tuple #[RF.v r', .slice A (s.step b).2.1.length c, .bool (s.step b).2.2.1, .int .i64 (s.step b).2.2.2]) ∧ Below w.heap.size w w' ∧ RefIn w' (newX X w w') r' (s.step b).1 ∧ IntsX w' (newX X w w') (.slice A (s.step b).2.1.length c) (s.step b).2.1 := by
  cases b
  · by_cases h0 : s.ow = 0
    · exact fstep2 h h0
    by_cases h1 : s.ow = 1
    · exact fstep5 h hk hX h1
    · exact fstep4 h hk hX h0 h1
  · by_cases h0 : s.iw = 0
    · exact fstep1 h h0
    · exact fstep3 h hk hX h0
end Go.Proofs.YtmcelldklmjlkaaDoor
