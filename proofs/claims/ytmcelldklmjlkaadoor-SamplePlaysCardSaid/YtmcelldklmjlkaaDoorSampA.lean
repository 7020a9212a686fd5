/- A sampling port: what words are, as a value. -/
import Derived.Test.YtmcelldklmjlkaaDoorSampP
import Derived.Deep.RegionHeld3
namespace Go.Proofs.YtmcelldklmjlkaaDoor
open Go.RowKit

theorem cut_bd (n : Int) : 0 ≤ cut n ∧ cut n ≤ 4611686018427387904 := by unfold cut; omega
theorem cut_any (n : Int) (w : World) : Calls Tryd.prog 34 #[.int .i64 n] w fun e w' => e = .returned (.int .i64 (cut n)) ∧ w = w' := by
  rcases (show n < 0 ∨ (0 ≤ n ∧ n ≤ 4611686018427387904) ∨ 4611686018427387904 < n by omega) with h | ⟨h, h'⟩ | h
  · rw [show cut n = 0 by unfold cut; omega]
    go_enter Tryd.func34, Tryd.ntmps34
    go_wp2
    go_ret
    exact ⟨rfl, rfl⟩
  · rw [show cut n = n by unfold cut; omega]
    go_enter Tryd.func34, Tryd.ntmps34
    go_wp2
    go_ret
    exact ⟨rfl, rfl⟩
  · rw [show cut n = 4611686018427387904 by unfold cut; omega]
    go_enter Tryd.func34, Tryd.ntmps34
    go_wp2
    go_ret
    exact ⟨rfl, rfl⟩
theorem sub_any (a b : Int) (w : World) : Calls Tryd.prog 47 #[.int .i64 a, .int .i64 b] w fun e w' => e = .returned (.int .i64 (ageI a b)) ∧ w = w' := by
  have ha := cut_bd a
  have hb := cut_bd b
  have HA := Lib.hid (cut_any a w)
  have HB := Lib.hid (cut_any b w)
  have HC := Lib.hid (cut_any (cut a - cut b) w)
  unfold ageI
  generalize cut a = x at *
  generalize cut b = y at *
  obtain ⟨a1, a2⟩ := ha
  obtain ⟨b1, b2⟩ := hb
  go_enter Tryd.func47, Tryd.ntmps47
  go_wp2_with fail
  refine HA.out.mono ?_
  rintro e w' ⟨rfl, rfl⟩
  go_wp2_with fail
  refine HB.out.mono ?_
  rintro e w' ⟨rfl, rfl⟩
  go_wp2_with fail
  refine HC.out.mono ?_
  rintro e w' ⟨rfl, rfl⟩
  go_wp2
  go_ret
  exact ⟨rfl, rfl⟩
theorem age_any (a b : Int) (w : World) : Calls Tryd.prog 31 #[.int .i64 a, .int .i64 b] w fun e w' => e = .returned (.int .i64 (ageI a b)) ∧ w = w' := by
  have HA := Lib.hid (sub_any a b w)
  go_enter Tryd.func31, Tryd.ntmps31
  go_wp2_with fail
  refine HA.out.mono ?_
  rintro e w' ⟨rfl, rfl⟩
  go_wp2
  go_ret
  exact ⟨rfl, rfl⟩
/-- A value, as it lies in memory: its words lie at v. -/
def valC (v : Value) (x : SV) : Array Value := #[v, .int .i64 x.q, .int .i64 x.t, .bool x.h, .bool x.v]
theorem vinfo : (Tryd.prog.info? 32).map (·.size) = some 5 := by kernel_rfl
/-- The words of a value: the call's own, or none. -/
def WordsAt (B : Nat) (w : World) (v : Value) (x : SV) : Prop := IntsIn w v x.l ∧ ∀ g, v.ownBlock = some g → B ≤ g ∧ g < w.heap.size
theorem WordsAt.below {B : Nat} {w w' : World} {v : Value} {x : SV} (h : WordsAt B w v x) (hb : Below w.heap.size w w') : WordsAt B w' v x := ⟨h.1.below hb, fun g hg => ⟨(h.2 g hg).1, Nat.lt_of_lt_of_le (h.2 g hg).2 hb.size⟩⟩
set_option maxRecDepth 100000 in
set_option maxHeartbeats 1600000 in
theorem value_any {w : World} {v : Value} {l : List Int} {kb : Nat} {f : Int} (hv : IntsIn w v l) (hl : l.length ≤ 65536) (hk : w.cell? ⟨kb, 4, none⟩ = some (.int .i64 f)) (now : Int) :
    Calls Tryd.prog 29 #[v, .int .i64 now, .pointer (some ⟨kb, 0, none⟩)] w fun e w' => ∃ u, e = .returned (.agg (valC u (valOf f l now))) ∧ WordsAt w.heap.size w' u (valOf f l now) ∧ Below w.heap.size w w' := by
  obtain ⟨A, c, rfl, hlc, hcs⟩ := hv
  have hZ0 : valOf f l now = SV.none → Blk (w.alloc (.cells (valC (.slice none 0 0) SV.none) 32)) w.heap.size 32 (valC (.slice none 0 0) (valOf f l now)) := fun e => by rw [e]; exact Blk.new _ _ _
  by_cases h2 : l.length ≤ 2
  · have e : valOf f l now = SV.none := by unfold valOf; rw [if_pos (.inl h2)]
    have b1 : (l.length : Int) ≤ 2 := by omega
    rw [e]
    have HZ := Lib.hid (Blk.new w 32 (valC (.slice none 0 0) SV.none))
    have HB := Lib.hid (below_alloc (w := w) (Nat.le_refl _) (.cells (valC (.slice none 0 0) SV.none) 32))
    clear e hZ0 hcs h2
    go_enter Tryd.func29, Tryd.ntmps29
    go_wp2
    refine bodyPost_ret (res_c1 rfl _ rfl HZ.out Tryd.underlying32 rfl vinfo) rfl ⟨_, rfl, ⟨IntsIn.nil _, fun g hg => by simp [Value.ownBlock] at hg⟩, HB.out⟩
  · obtain ⟨g, o, rfl, hcell⟩ := hcs (by omega)
    have e0 : l[0]?.getD 0 = l[0] := by rw [List.getElem?_eq_getElem (by omega)]; rfl
    have e1 : l[1]?.getD 0 = l[1] := by rw [List.getElem?_eq_getElem (by omega)]; rfl
    have k0 : w.cell? ⟨g, o, none⟩ = some (.int .i64 (l[0]?.getD 0)) := by rw [e0]; exact hcell 0 (by omega)
    have k1 : w.cell? ⟨g, o + 1, none⟩ = some (.int .i64 (l[1]?.getD 0)) := by rw [e1]; exact hcell 1 (by omega)
    have hg : g < w.heap.size := World.block_lt_of_cell? _ _ k0
    have ev : valOf f l now = if l[0]?.getD 0 = 0 then SV.none else ⟨l.drop 2, l[0]?.getD 0, l[1]?.getD 0, true, decide (ageI now (l[1]?.getD 0) ≤ f)⟩ := by
      unfold valOf
      by_cases h0 : l[0]?.getD 0 = 0
      · rw [if_pos (.inr h0), if_pos h0]
      · rw [if_neg (by omega), if_neg h0]
    rw [ev]
    clear e0 e1 ev hZ0
    generalize l[0]?.getD 0 = x0 at *
    generalize l[1]?.getD 0 = x1 at *
    have b1 : ¬ (l.length : Int) ≤ 2 := by omega
    have b2 : (0 : Int) < (l.length : Int) := by omega
    have b3 : (1 : Int) < (l.length : Int) := by omega
    have b4 : (2 : Int) ≤ (l.length : Int) := by omega
    by_cases hz : x0 = 0
    · rw [if_pos hz]
      rw [hz] at k0
      have HZ := Lib.hid (Blk.new w 32 (valC (.slice none 0 0) SV.none))
      have HB := Lib.hid (below_alloc (w := w) (Nat.le_refl _) (.cells (valC (.slice none 0 0) SV.none) 32))
      clear hcs hcell hz
      go_enter Tryd.func29, Tryd.ntmps29
      go_wp2
      refine bodyPost_ret (res_c1 rfl _ rfl HZ.out Tryd.underlying32 rfl vinfo) rfl ⟨_, rfl, ⟨IntsIn.nil _, fun g hg => by simp [Value.ownBlock] at hg⟩, HB.out⟩
    · rw [if_neg hz]
      have HI : IntsIn w (.slice (some ⟨g, o + 2, none⟩) (l.drop 2).length (c - 2)) (l.drop 2) := ⟨_, _, rfl, by rw [List.length_drop]; omega, fun _ => ⟨g, o + 2, rfl, fun i hi => by
        rw [List.length_drop] at hi
        rw [List.getElem_drop, ← hcell (2 + i) (by omega)]
        congr 2
        omega⟩⟩
      have hld : (l.drop 2).length = l.length - 2 := by rw [List.length_drop]
      have HCL := Lib.hid (fun (w1 : World) (hb : Below w.heap.size w w1) => clone_any (HI.below hb) (by omega))
      have HAG := Lib.hid (age_any now x1)
      have hbz := below_alloc (w := w) (Nat.le_refl _) (.cells (valC (.slice none 0 0) SV.none) 32)
      have hz0 := Blk.new w 32 (valC (.slice none 0 0) SV.none)
      rw [hld] at HCL
      clear hcs hcell HI
      have z0 : (x0 == 0) = false := by simpa using hz
      simp only [valC, SV.none] at hbz hz0
      have d4 := (hbz.cell (p := ⟨kb, 4, none⟩) (World.block_lt_of_cell? _ _ hk)).trans hk
      have d0 := (hbz.cell (p := ⟨g, o, none⟩) hg).trans k0
      have d1 := (hbz.cell (p := ⟨g, o + 1, none⟩) hg).trans k1
      generalize ageI now x1 = ag at *
      obtain ⟨dd, hdd⟩ : ∃ dd, decide (ag ≤ f) = dd := ⟨_, rfl⟩
      rw [hdd]
      go_enter Tryd.func29, Tryd.ntmps29
      go_wp2
      generalize w.alloc (.cells #[.slice none 0 0, .int .i64 0, .int .i64 0, .bool false, .bool false] 32) = wz at *
      have hrl := hz0.lt
      have ne1 : kb ≠ w.heap.size := by have := World.block_lt_of_cell? _ _ hk; simp only at this; omega
      have ne2 : g ≠ w.heap.size := by omega
      have ne3 := Ne.symm ne1
      have ne4 := Ne.symm ne2
      have HLD := Lib.hid hld
      have HDD := Lib.hid hdd
      clear hld hdd
      generalize hn : l.length = n at *
      have HN := Lib.hid hn
      have n0 : 0 < n := by omega
      have n1 : 1 < n := by omega
      have n2 : 2 ≤ n := by omega
      have c2 : ¬ c = 2 := by omega
      clear hn
      generalize hr : w.heap.size = r at *
      go_region_held3 (fun w' => w'.cell? ⟨kb, 4, none⟩ = some (.int .i64 f) ∧ w'.cell? ⟨g, o, none⟩ = some (.int .i64 x0) ∧ w'.cell? ⟨g, o + 1, none⟩ = some (.int .i64 x1)) (go_keep)
        (first
          | (go_at_call 30; refine (HCL.out _ (by first | exact hbz | exact hbz.drew)).mono ?_; rintro e w2 ⟨u, rfl, ho, hb2⟩; obtain ⟨Au, cu, rfl⟩ := own_form ho; have hb2 := (show Below wz.heap.size wz w2 from by first | exact hb2 | exact (Below.refl _ wz).drew.trans hb2);
             have d4 := (hb2.cell (p := ⟨kb, 4, none⟩) (World.block_lt_of_cell? _ _ d4)).trans d4; have d0 := (hb2.cell (p := ⟨g, o, none⟩) (World.block_lt_of_cell? _ _ d0)).trans d0; have d1 := (hb2.cell (p := ⟨g, o + 1, none⟩) (World.block_lt_of_cell? _ _ d1)).trans d1;
             have hz2 := hz0.below hb2 hrl; have r0 := hz2.cell 0; have r1 := hz2.cell 1; have r2 := hz2.cell 2; have r3 := hz2.cell 3; have r4 := hz2.cell 4; have f0 := hz2.fr 0; have f1 := hz2.fr 1; have f2 := hz2.fr 2; have f3 := hz2.fr 3; have f4 := hz2.fr 4; have HO := Lib.hid ho; have HB2 := Lib.hid hb2; have HZ2 := Lib.hid hz2; clear ho hb2 hz2)
          | (go_at_call 31; refine (HAG.out _).mono ?_; rintro e w3 ⟨rfl, rfl⟩))
      have HW := Lib.hid (show Blk (((((w2.setCell ⟨r, 0, none⟩ (.slice Au (n - 2) cu)).setCell ⟨r, 1, none⟩ (.int .i64 x0)).setCell ⟨r, 2, none⟩ (.int .i64 x1)).setCell ⟨r, 3, none⟩ (.bool true)).setCell ⟨r, 4, none⟩ (.bool (decide (ag ≤ f)))) r 32 (valC (.slice Au (n - 2) cu) ⟨l.drop 2, x0, x1, true, decide (ag ≤ f)⟩) from ((((HZ2.out.set 0 _).set 1 _).set 2 _).set 3 _).set 4 _)
      have hO : Only (fun k => k = r) w2 (((((w2.setCell ⟨r, 0, none⟩ (.slice Au (n - 2) cu)).setCell ⟨r, 1, none⟩ (.int .i64 x0)).setCell ⟨r, 2, none⟩ (.int .i64 x1)).setCell ⟨r, 3, none⟩ (.bool true)).setCell ⟨r, 4, none⟩ (.bool (decide (ag ≤ f)))) := onl_set (S := fun k => k = r) (onl_set (S := fun k => k = r) (onl_set (S := fun k => k = r) (onl_set (S := fun k => k = r) (onl_set (S := fun k => k = r) (onl_refl _ w2) (p := ⟨r, 0, none⟩) (.inl rfl) _) (p := ⟨r, 1, none⟩) (.inl rfl) _) (p := ⟨r, 2, none⟩) (.inl rfl) _) (p := ⟨r, 3, none⟩) (.inl rfl) _) (p := ⟨r, 4, none⟩) (.inl rfl) _
      have HON := Lib.hid hO
      rename_i hHd
      clear hO d4 d0 d1 r0 r1 r2 r3 r4 f0 f1 f2 f3 f4 hHd HCL HAG
      go_wp2
      have hlt := fun g hg => (HO.out.lt g hg).1
      have hown := own_onl HO.out HON.out (fun g hg e => by have := hlt g hg; have e2 : wz.drew.heap.size = wz.heap.size := rfl; omega)
      have hbl := hbz.trans (HB2.out.mono (by have := hbz.size; omega))
      refine bodyPost_ret (res_c1 rfl _ rfl HW.out Tryd.underlying32 rfl vinfo) rfl ⟨_, by rw [HDD.out], ⟨?_, fun g hg => ?_⟩, ?_⟩
      · have := IntsIn.of_own (l := l.drop 2) hown rfl
        exact this
      · have := hlt g hg
        have e2 : wz.drew.heap.size = wz.heap.size := rfl
        exact ⟨by omega, Nat.lt_of_lt_of_le (HO.out.lt g hg).2 HON.out.size⟩
      · rw [hr]
        exact below_onl hbl HON.out (Nat.le_trans (Nat.le_of_lt hrl) hb2.size) (fun k e => by omega)
end Go.Proofs.YtmcelldklmjlkaaDoor
