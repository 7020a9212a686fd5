/- An event's line. -/
import Derived.Test.YtbnaehfgpilicaaDoorHealthF
import Derived.Deep.AppendLies
namespace Go.Proofs.YtbnaehfgpilicaaDoor
open Go.RowKit

theorem infoStr : (Tryd.prog.info? 9).map (fun i => (i.zero, i.size, i.bytes)) = some (some (.string ⟨#[]⟩), 1, 16) := by kernel_rfl
def strs (l : List ByteArray) : List Value := l.map Value.string
def numB (n : Int) : ByteArray := ⟨(Lib.itoa n).toArray⟩
def fiveB (e : Ev) : List ByteArray := [numB e.t, wordB e.k, numB e.p, numB e.c, numB e.n]
def lineL (e : Ev) : List UInt8 := Lib.join ((fiveB e).map (·.data.toList)) [32]
def lineB (e : Ev) : ByteArray := if okK e.k then ⟨(lineL e).toArray⟩ else ⟨#[]⟩
theorem num_len (n : Int) (h0 : -9223372036854775808 ≤ n) (h1 : n ≤ 9223372036854775807) : (numB n).data.toList.length ≤ 21 := by
  have := Lib.itoa_length_le n h0 h1
  simpa [numB] using this
def evFits (e : Ev) : Prop := (-9223372036854775808 ≤ e.t ∧ e.t ≤ 9223372036854775807) ∧ (-9223372036854775808 ≤ e.p ∧ e.p ≤ 9223372036854775807) ∧ (-9223372036854775808 ≤ e.c ∧ e.c ≤ 9223372036854775807) ∧ (-9223372036854775808 ≤ e.n ∧ e.n ≤ 9223372036854775807)
theorem word_len (k : Int) : (wordB k).data.toList.length ≤ 8 := by
  unfold wordB
  repeat' split
  all_goals simp
theorem line_len (e : Ev) (h : evFits e) : (lineL e).length ≤ 1000 := by
  obtain ⟨⟨a0, a1⟩, ⟨b0, b1⟩, ⟨c0, c1⟩, ⟨d0, d1⟩⟩ := h
  have h1 := num_len e.t a0 a1
  have h2 := num_len e.p b0 b1
  have h3 := num_len e.c c0 c1
  have h4 := num_len e.n d0 d1
  have h5 := word_len e.k
  unfold lineL fiveB
  rw [List.map_cons, Lib.join_cons]
  simp only [Lib.joinTail, List.map_cons, List.map_nil, List.flatten_cons, List.flatten_nil, List.length_append, List.length_cons, List.length_nil]
  omega
set_option maxHeartbeats 3200000 in
theorem line_yes {w : World} (e : Ev) (hk : okK e.k) (hf : evFits e) (h1 : ItoaAt w e.t) (h2 : ItoaAt w e.p) (h3 : ItoaAt w e.c) (h4 : ItoaAt w e.n) :
    Calls Tryd.prog 10 #[.agg e.cells] w fun r w' => r = .returned (.string ⟨(lineL e).toArray⟩) ∧ Below w.heap.size w w' := by
  obtain ⟨i0, hi0, hz0, hz1, hz2⟩ := info_parts infoStr
  have HLL := Lib.hid (line_len e hf)
  have H1 := Lib.hid h1
  have H2 := Lib.hid h2
  have H3 := Lib.hid h3
  have H4 := Lib.hid h4
  unfold Ev.cells
  clear h1 h2 h3 h4 hf
  go_enter Tryd.func10, Tryd.ntmps10
  go_wp2_with fail
  refine (is_yes _ _ hk).mono ?_
  rintro r w1 ⟨rfl, hw⟩
  have hx : Blk w1 w.heap.size 23 e.cells := hw ▸ Blk.new w _ _
  have hB : Below w.heap.size w w1 := hw ▸ below_alloc (Nat.le_refl _) _
  have hs1 : w1.heap.size = w.heap.size + 1 := by rw [← hw]; simp
  clear hw
  go_upto_region 3 with (fail)
  go_cut [3] (fun v wx => ∃ h, v = .slice (some ⟨h, 0, none⟩) 2 2 ∧ Blk wx h 9 #[.string (numB e.t), .string (wordB e.k)] ∧ w.heap.size ≤ h ∧ Below w.heap.size w wx ∧ Blk wx w.heap.size 23 e.cells)
  case first =>
    have hbw : Below w1.heap.size w1 w1 := Below.refl _ _
    have k0 : w1.cell? ⟨w.heap.size, 0, none⟩ = some (.int .i64 e.k) := (hx.cell 0).trans rfl
    have k1 : w1.cell? ⟨w.heap.size, 1, none⟩ = some (.int .i64 e.t) := (hx.cell 1).trans rfl
    have HIT := Lib.hid (show ∀ w', Below w1.heap.size w1 w' → Calls Tryd.prog 29 #[.int .i64 e.t] w' fun r w'' => r = .returned (.string (numB e.t)) ∧ Below w1.heap.size w1 w'' ∧ w''.cell? ⟨w.heap.size, 0, none⟩ = some (.int .i64 e.k) ∧ w''.cell? ⟨w.heap.size, 1, none⟩ = some (.int .i64 e.t) from fun w' hb =>
      (H1.out w' (hB.trans (hb.mono hB.size))).mono fun r w'' ⟨hr, hb'⟩ => by
        have hb2 : Below w1.heap.size w1 w'' := hb.trans (hb'.mono hb.size)
        exact ⟨hr, hb2, (hb2.cell (p := ⟨w.heap.size, 0, none⟩) (by show w.heap.size < _; omega)).trans k0, (hb2.cell (p := ⟨w.heap.size, 1, none⟩) (by show w.heap.size < _; omega)).trans k1⟩)
    have HX := Lib.hid hx
    have HB := Lib.hid hB
    have HS := Lib.hid hs1
    have HW := Lib.hid (show ∀ W, Calls Tryd.prog 12 #[.int .i64 e.k] W fun r w' => r = .returned (.string (wordB e.k)) ∧ W = w' from fun W => word_any e.k W)
    clear hx hB hs1
    go_wp2_with fail
    go_region_held3 (fun w' => Below w1.heap.size w1 w' ∧ w'.cell? ⟨w.heap.size, 0, none⟩ = some (.int .i64 e.k) ∧ w'.cell? ⟨w.heap.size, 1, none⟩ = some (.int .i64 e.t))
      (first | exact ⟨hbw, k0, k1⟩ | exact ⟨hbw.drew, k0, k1⟩ | exact ⟨hbw.alloc (by have := hbw.size; simpa using this) _, (World.cell?_alloc_some _ _ _ (by rw [k0]; rfl)).trans k0, (World.cell?_alloc_some _ _ _ (by rw [k1]; rfl)).trans k1⟩)
      (first
        | (go_at_call 29; refine (HIT.out _ (by first | exact hbw | exact hbw.drew)).mono ?_; rintro r w' ⟨rfl, hbw, k0, k1⟩)
        | (go_at_call 12; refine (HW.out _).mono ?_; rintro r w' ⟨rfl, rfl⟩))
    go_wp2
    go_meet
    exact ⟨_, rfl, Blk.new _ _ _, by have := hbw.size; have := HB.out.size; omega, (HB.out.trans (hbw.mono HB.out.size)).alloc (by have := hbw.size; have := HB.out.size; omega) _, (HX.out.below hbw HX.out.lt).alloc _⟩
  case rest =>
    obtain ⟨h, rfl, hrow, hh, hB, hx⟩ := hcut
    have x2 : wc.cell? ⟨w.heap.size, 2, none⟩ = some (.int .i64 e.p) := (hx.cell 2).trans rfl
    have x3 : wc.cell? ⟨w.heap.size, 3, none⟩ = some (.int .i64 e.c) := (hx.cell 3).trans rfl
    have x4 : wc.cell? ⟨w.heap.size, 4, none⟩ = some (.int .i64 e.n) := (hx.cell 4).trans rfl
    have hhl := hrow.lt
    have HG := Lib.hid ((Blk.new wc 3 #[.int .i64 e.p, .int .i64 e.c, .int .i64 e.n]))
    have HRW := Lib.hid (show (wc.alloc (.cells #[.int .i64 e.p, .int .i64 e.c, .int .i64 e.n] 3)).ownsRow w.heap.size 9 1 (.slice (some ⟨h, 0, none⟩) 2 2) 2 (strs ((fiveB e).take 2)) from
      ⟨rfl, .inr ⟨h, 2, _, rfl, hh, hrow.alloc _, Nat.le_refl _, by unfold maxLen; omega, rfl, rfl⟩⟩)
    have HBA := Lib.hid (hB.alloc hB.size (.cells #[.int .i64 e.p, .int .i64 e.c, .int .i64 e.n] 3))
    have hgs : w.heap.size ≤ wc.heap.size := hB.size
    obtain ⟨G, hG⟩ : ∃ G, G = wc.heap.size := ⟨_, rfl⟩
    have hGl : h ≠ G := by omega
    rw [← hG] at HG
    have HGG := Lib.hid hG
    clear hrow hB hx hG
    go_wp2_with fail
    rw [← HGG.out]
    go_loopw [3, 25] (fun v i wr => ∃ (k h cap : Nat), k ≤ 3 ∧ i = .int .i64 k ∧ v = .slice (some ⟨h, 0, none⟩) (2 + k) cap ∧ wr.ownsRow w.heap.size 9 1 (.slice (some ⟨h, 0, none⟩) (2 + k) cap) (2 + k) (strs ((fiveB e).take (2 + k))) ∧ h ≠ G ∧ Below w.heap.size w wr ∧ Blk wr G 3 #[.int .i64 e.p, .int .i64 e.c, .int .i64 e.n]) (fun _ i _ => 3 - (intOf i).toNat)
    case atStart => exact ⟨0, h, 2, by omega, rfl, rfl, HRW.out, hGl, HBA.out, HG.out⟩
    case round =>
      clear HG HRW HBA x2 x3 x4 hhl hGl
      obtain ⟨k, h, cap, hk3, rfl, rfl, hown, hne, hbel, hg⟩ := hrel
      by_cases hlt : k < 3
      · obtain ⟨m, hm1, hm2, hm3⟩ : ∃ m : Int, wr.cell? ⟨G, k, none⟩ = some (.int .i64 m) ∧ ItoaAt w m ∧ (fiveB e).take (2 + (k + 1)) = (fiveB e).take (2 + k) ++ [numB m] := by
          rcases (show k = 0 ∨ k = 1 ∨ k = 2 by omega) with rfl | rfl | rfl
          · exact ⟨e.p, (hg.cell 0).trans rfl, H2.out, rfl⟩
          · exact ⟨e.c, (hg.cell 1).trans rfl, H3.out, rfl⟩
          · exact ⟨e.n, (hg.cell 2).trans rfl, H4.out, rfl⟩
        have HI := Lib.hid (show Calls Tryd.prog 29 #[.int .i64 m] wr fun r w'' => r = .returned (.string (numB m)) ∧ Below wr.heap.size wr w'' from hm2 wr hbel)
        have HM := Lib.hid hm3
        have HO := Lib.hid hown
        have HB := Lib.hid hbel
        have HG := Lib.hid hg
        have hgl := hg.lt
        have b1 : (k : Int) < 3 := by omega
        have b0 : (0 : Int) ≤ (k : Int) := by omega
        clear hm2 hm3 hown hbel hg
        go_wp2_with fail
        refine HI.out.mono ?_
        rintro r w2 ⟨rfl, hb2⟩
        have HO2 := Lib.hid ((ownsRow_below HO.out hb2 (Nat.le_refl _)).alloc (.cells #[.string (numB m)] 9))
        have HB2 := Lib.hid ((HB.out.trans (hb2.mono HB.out.size)).alloc (by have := hb2.size; have := HB.out.size; omega) (.cells #[.string (numB m)] 9))
        have HG2 := Lib.hid ((HG.out.below hb2 hgl).alloc (.cells #[.string (numB m)] 9))
        have hs2 : wr.heap.size ≤ w2.heap.size := hb2.size
        have hw2 : w.heap.size ≤ w2.heap.size := by have := HB.out.size; omega
        clear hb2 HI
        go_wp2_with (at_builtin; go_loud (refine wpList_append_lies _ rfl _ _ 51 rfl w.heap.size 9 i0 (.string ⟨#[]⟩) 1 16 Tryd.underlying51 hi0 hz0 hz1 hz2 rfl (by decide) (.slice (some ⟨h, 0, none⟩) (2 + k) cap) (2 + k) _ rfl HO2.out ⟨w2.heap.size, 0, none⟩ 1 1 [.string (numB m)] (by simp [Act.eval]) rfl (one_new w2 _ _) (by simp [Value.oneCell']) (by omega) (by simp [maxLen]; omega) (by omega) (by simp; omega) _ rfl ?_))
        intro g cap' w3 hown3 hgr hat hlt3
        have HO3 := Lib.hid (show w3.ownsRow w.heap.size 9 1 (.slice (some ⟨g, 0, none⟩) (2 + (k + 1)) cap') (2 + (k + 1)) (strs ((fiveB e).take (2 + (k + 1)))) from by
          rw [HM.out, strs, List.map_append]; exact hown3)
        have hh3 : w.heap.size ≤ h := by
          obtain ⟨g', c', e1, e2, _⟩ := own_pos HO.out (by omega)
          injection e1 with q1
          injection q1 with q1
          injection q1 with q1
          omega
        have HB3 := Lib.hid (show Below w.heap.size w w3 from HB2.out.grown hgr (by simp; omega) (fun j hj => by simp [Value.ownBlock] at hj; omega))
        have HG3 := Lib.hid (HG2.out.grown hgr (by simp [Value.ownBlock]; omega))
        have hgG : g ≠ G := by
          rcases hat with e1 | e1
          · simp [Value.ownBlock] at e1; omega
          · omega
        clear hown3 hgr hat HO2 HB2 HG2
        go_wp2_with fail
        go_roundw
        case rel => exact ⟨k + 1, g, cap', by omega, by go_num, rfl, HO3.out, hgG, HB3.out, HG3.out⟩
        case measure => simp [intOf]; omega
      · obtain rfl : k = 3 := by omega
        have HB := Lib.hid hbel
        have hcell : ∀ (j : Nat) x, (fiveB e)[j]? = some x → wr.cell? ⟨h, 0 + j, none⟩ = some (.string x) := by
          intro j x hj
          have hj5 : j < 5 := by have := (List.getElem?_eq_some_iff.1 hj).1; simpa [fiveB] using this
          rw [Nat.zero_add, hown.cellAt j (by omega), strs, List.getElem?_map, show (fiveB e).take (2 + 3) = fiveB e from rfl, hj]
          rfl
        have hhl : h < wr.heap.size := by
          have := hcell 0 _ rfl
          exact World.block_lt_of_cell? _ _ this
        have hcap : 5 ≤ cap := by
          obtain ⟨g', c', e1, _, _, e2, _⟩ := own_pos hown (by omega)
          injection e1 with _ _ q3
          omega
        have HJ := Lib.hid (Tryd.strings_Join h 0 cap (fiveB e) ⟨#[32]⟩ wr hcell hhl (by simp [fiveB]) (by simp [fiveB]; omega) (by
          show (lineL e).length ≤ _
          have := HLL.out
          omega))
        have b1 : ¬ ((3 : Nat) : Int) < 3 := by omega
        clear hown hbel hg hcell hne
        go_wp2_with fail
        refine HJ.out.mono ?_
        rintro r w2 ⟨rfl, hb2⟩
        have HB2 := Lib.hid (HB.out.trans (hb2.mono HB.out.size))
        clear hb2
        go_wp2_with fail
        go_ret
        exact ⟨rfl, HB2.out⟩
theorem line_no {w : World} (e : Ev) (hk : ¬ okK e.k) : Calls Tryd.prog 10 #[.agg e.cells] w fun r w' => r = .returned (.string ⟨#[]⟩) ∧ Below w.heap.size w w' := by
  unfold Ev.cells
  go_enter Tryd.func10, Tryd.ntmps10
  go_wp2_with fail
  refine (is_no _ _ hk).mono ?_
  rintro r w1 ⟨rfl, rfl⟩
  go_wp2
  go_ret
  exact ⟨rfl, below_alloc (Nat.le_refl _) _⟩
end Go.Proofs.YtbnaehfgpilicaaDoor
