/- CellLast: what is read is what was written last. -/
import Derived.Test.YtkamcjejongmbaaDoorCellSame
namespace Go.Proofs.YtkamcjejongmbaaDoor
open Go.RowKit

theorem read_in {s : CS} {j : Nat} (h : j < s.l.length) : s.read j = (⟨s.l, s.c + 1⟩, s.l[j], 0) := by
  unfold CS.read CS.why
  rw [if_pos (by unfold why; rw [if_neg (by omega), if_neg (by omega)]), val_lt s j (by omega) (by omega)]
  rfl
theorem swap_in {s : CS} {j : Nat} {x : Int} (h : j < s.l.length) (h0 : 0 ≤ x) (h1 : x ≤ 2147483647) : s.swap j x = (⟨s.l.set j x, s.c + 1⟩, s.l[j], 0) := by
  unfold CS.swap CS.why
  rw [if_pos (by unfold why; rw [if_neg (by omega), if_neg (by omega)]), val_lt s j (by omega) (by omega)]
  rfl
theorem zeroed_one (l : List Int) (j : Nat) (h : j < l.length) : zeroed l j 1 = l.set j 0 := by
  apply List.ext_getElem?
  intro i
  rcases Nat.lt_or_ge i l.length with hi | hi
  · rw [zeroed_get _ _ _ _ (by omega) hi, List.getElem?_set]
    by_cases e : j = i
    · subst e; rw [if_pos (by omega), if_pos rfl, if_pos h]
    · rw [if_neg (by omega), if_neg e]
  · rw [List.getElem?_eq_none (by rw [zeroed_len _ _ _ (by omega)]; omega), List.getElem?_eq_none (by rw [List.length_set]; omega)]
theorem reset_one {s : CS} {j : Nat} (h : j < s.l.length) : s.reset j 1 = (⟨s.l.set j 0, s.c⟩, 0) := by
  unfold CS.reset
  rw [if_pos (by unfold CS.fits; omega)]
  rw [show (j : Int).toNat = j from rfl, show (1 : Int).toNat = 1 from rfl, zeroed_one _ _ h]
theorem put_blk {w : World} {b : Nat} {t : TypeId} {l : List Int} (h : Blk w b t (nums l).toArray) (j : Nat) (x : Int) : Blk (w.setCell ⟨b, j, none⟩ (.int .i64 x)) b t (nums (l.set j x)).toArray := by
  have h1 := h.set j (.int .i64 x)
  have e1 : (nums l).toArray.setIfInBounds j (.int .i64 x) = (nums (l.set j x)).toArray := by
    unfold nums; rw [List.setIfInBounds_toArray, List.map_set]
  rw [e1] at h1
  exact h1
theorem arr_in {w : World} {b : Nat} {t : TypeId} {l : List Int} (h : Blk w b t (nums l).toArray) (hl : l.length = 16) : IntsIn w (.slice (some ⟨b, 0, none⟩) 16 16) l :=
  ⟨_, _, by rw [hl], by omega, fun _ => ⟨b, 0, rfl, fun i hi => by rw [Nat.zero_add, h.cell, List.getElem?_toArray]; exact nums_get l i hi⟩⟩
def kindOf (k : Int) : Int := k % 4
theorem kind_any (k i v : Int) (w : World) : Calls Tryd.prog 24 #[.agg #[.int .i64 k, .int .i64 i, .int .i64 v]] w fun e w' => e = .returned (.int .i64 (kindOf k)) ∧ Below w.heap.size w w' := by
  go_enter Tryd.func24, Tryd.ntmps24
  go_wp2
  go_ret
  have e : wrap64 ((IntKind.u64.wrap k).tmod 4) = kindOf k := by
    rw [IntKind.wrap_u64, Int.tmod_eq_emod_of_nonneg (by omega)]
    unfold wrap64 kindOf
    omega
  exact ⟨by rw [← e]; rfl, (Below.refl _ _).alloc (Nat.le_refl _) _⟩
theorem kind_cases (k : Int) : kindOf k = 0 ∨ kindOf k = 1 ∨ kindOf k = 2 ∨ kindOf k = 3 := by unfold kindOf; omega
set_option maxRecDepth 100000 in
set_option maxHeartbeats 1000000 in
theorem law_cellLast (A : Option Addr) (len cap : Nat) (l : List St) {w : World} (hE : ErrT w) (hs : StsIn w (.slice A len cap) l) (hlc : len ≤ cap) (hcap : cap ≤ maxLen) :
    Calls Tryd.prog 8 #[.slice A len cap] w fun r w' => r = .returned (.bool true) ∧ Below w.heap.size w w' := by
  have HL := Lib.hid (lives_any hE (Below.refl _ w))
  have HN := Lib.hid (fun w1 (h1 : Below w.heap.size w w1) => cctx_new hE h1 16 (by omega))
  have HA := Lib.hid (fun W => early_any A len cap W hlc hcap)
  have HS0 := hs.take (m := min len 80) (by omega)
  have hn : min len 80 = (l.take (min len 80)).length := by
    obtain ⟨_, _, e, _⟩ := HS0
    injection e
  generalize l.take (min len 80) = L at *
  rw [hn] at HS0
  have HS := Lib.hid HS0
  have hL80 : L.length ≤ 80 := by omega
  have HA' := Lib.hid (show ∀ W, Calls Tryd.prog 20 #[.slice A len cap] W fun e w' => e = .returned (.slice A L.length cap) ∧ W = w' from fun W => by have := HA.out W; rw [hn] at this; exact this)
  clear hE HS0 hs HA hn hlc hcap
  go_enter Tryd.func8, Tryd.ntmps8
  go_wp2_with fail
  refine HL.out.mono ?_
  rintro r w1 ⟨rfl, hb⟩
  have HB := Lib.hid hb
  clear hb HL
  go_wp2_with fail
  refine (HN.out w1 HB.out).mono ?_
  rintro r w2 ⟨rfl, hC, -⟩
  have hd1 : w1.heap.size + 1 < w2.heap.size ∧ w1.heap.size < w2.heap.size := ⟨hC.at_.m.lt, hC.at_.d.lt⟩
  generalize w1.heap.size + 1 = ma at *
  generalize w1.heap.size = la at *
  have hG := hC.bel.size
  have HC2 := Lib.hid (hC.below (below_alloc (Nat.le_refl _) (.cells (nums (List.replicate 16 0)).toArray 53)))
  have HB2 := Lib.hid (Blk.new w2 53 (nums (List.replicate 16 0)).toArray)
  have HM := Lib.hid (show ¬ memS ma la w2.heap.size by unfold memS; omega)
  have HG := Lib.hid hG
  rw [show (nums (List.replicate 16 0)).toArray = #[.int .i64 0, .int .i64 0, .int .i64 0, .int .i64 0, .int .i64 0, .int .i64 0, .int .i64 0, .int .i64 0, .int .i64 0, .int .i64 0, .int .i64 0, .int .i64 0, .int .i64 0, .int .i64 0, .int .i64 0, .int .i64 0] from rfl] at HC2
  clear HN hC HB hd1 hG
  go_wp2_with (go_at_call 20; refine (HA'.out _).mono ?_; rintro r w9 ⟨rfl, rfl⟩)
  generalize w2.heap.size = bl at *
  clear HA'
  go_loopw [5, 6] (fun n i wr => ∃ k : Nat, k ≤ L.length ∧ i = .int .i64 k ∧ ∃ s : CS, n = .int .i64 s.c ∧ CCtx w wr ma la s ∧ Blk wr bl 53 (nums s.l).toArray ∧ s.l.length = 16 ∧ s.c ≤ k) (fun _ i _ => L.length - (intOf i).toNat)
  case atStart => exact ⟨0, Nat.zero_le _, rfl, _, rfl, HC2.out, HB2.out, by simp, Nat.le_refl _⟩
  case round =>
    obtain ⟨k, hk, rfl, s, rfl, hC, hB, hsl, hsc⟩ := hrel
    clear HC2 HB2
    by_cases hlt : k < L.length
    · have hS := HS.out.below hC.bel
      obtain ⟨_, _, e, hl2, hc⟩ := hS
      injection e with e1 _ e3
      subst e1 e3
      obtain ⟨g, o, rfl, hcell⟩ := hc (by omega)
      obtain ⟨hst, -⟩ := hcell k hlt
      obtain ⟨s0, s1, s2⟩ := hst
      have b0 : (0 : Int) ≤ (k : Int) := by omega
      have b1 : (k : Int) < (L.length : Int) := by omega
      have HK := Lib.hid (kind_any L[k].k L[k].i L[k].v)
      have hkk := kind_cases L[k].k
      generalize kindOf L[k].k = kd at *
      generalize L[k].k = kk at *
      generalize L[k].i = i at *
      generalize L[k].v = v at *
      obtain ⟨j, hj16, ej'⟩ := mod_nat i 16 (by omega)
      obtain ⟨x, hx, ex'⟩ := mod_nat v 2147483648 (by omega)
      have HEJ := Lib.hid (show wrap64 ((IntKind.u64.wrap i).tmod 16) = (j : Int) from ej')
      have HEX := Lib.hid (show wrap64 ((IntKind.u64.wrap v).tmod 2147483648) = (x : Int) from ex')
      clear ej' ex'
      have hcc : s.c < 4611686018427387904 := by omega
      have hx0 : 0 ≤ (x : Int) := by omega
      have hx1 : (x : Int) ≤ 2147483647 := by omega
      have hj : j < s.l.length := by omega
      have HC := Lib.hid hC
      have HB := Lib.hid hB
      have wc : wrap64 ((s.c : Int) + 1) = (s.c : Int) + 1 := by unfold wrap64; omega
      have wd : wrap64 (s.c : Int) = (s.c : Int) := by unfold wrap64; omega
      have j0 : (0 : Int) ≤ (j : Int) := by omega
      have j1 : (j : Int) < 16 := by omega
      clear hcell hc hC hB
      rcases hkk with rfl | rfl | rfl | rfl
      · go_wp2_with fail
        rw [HEJ.out, HEX.out]
        clear HEJ HEX
        refine (HK.out _).mono ?_
        rintro r w4 ⟨rfl, hb⟩
        have HC4 := Lib.hid (HC.out.below hb)
        have HB4 := Lib.hid (HB.out.below hb HB.out.lt)
        clear HC HB hb HK
        go_wp2_with fail
        refine (cctx_read HC4.out hcc (j : Int)).mono ?_
        rw [read_in hj]
        rintro r w5 ⟨rfl, hC, hO⟩
        have HB5 := Lib.hid (blk_onl HB4.out hO (HM.out))
        have c1 : w5.cell? ⟨bl, j, none⟩ = some (.int .i64 s.l[j]) := (HB5.out.cell j).trans (by rw [List.getElem?_toArray]; exact nums_get s.l j hj)
        have HC5 := Lib.hid hC
        clear hC hO HC4 HB4
        generalize s.l[j] = y at *
        go_wp2_with (go_at_call 17; refine (cctx_count HC5.out).mono ?_; rintro r w8 ⟨rfl, rfl⟩)
        go_roundw
        case rel => exact ⟨k + 1, by omega, by go_num, _, by simp, HC5.out, HB5.out, hsl, by simp; omega⟩
        case measure => simp [intOf]; omega
      · go_wp2_with fail
        rw [HEJ.out, HEX.out]
        clear HEJ HEX
        refine (HK.out _).mono ?_
        rintro r w4 ⟨rfl, hb⟩
        have HC4 := Lib.hid (HC.out.below hb)
        have HB4 := Lib.hid (HB.out.below hb HB.out.lt)
        clear HC HB hb HK
        go_wp2_with fail
        refine (cctx_write HC4.out hcc (j : Int) (x : Int)).mono ?_
        rw [swap_in hj hx0 hx1]
        rintro r w5 ⟨rfl, hC, hO⟩
        have hB5 := blk_onl HB4.out hO (HM.out)
        have c1 : w5.cell? ⟨bl, j, none⟩ = some (.int .i64 s.l[j]) := (hB5.cell j).trans (by rw [List.getElem?_toArray]; exact nums_get s.l j hj)
        have f1 := hB5.fr j
        have HC6 := Lib.hid (hC.other (onl_set (S := fun q => q = bl) (onl_refl _ w5) (p := ⟨bl, j, none⟩) (.inl rfl) (.int .i64 (x : Int))) (fun e => HM.out (.inl e.symm)) (fun e => HM.out (.inr e.symm)) (by rintro q rfl; exact HG.out))
        have HB6 := Lib.hid (put_blk hB5 j (x : Int))
        clear hC hO HC4 HB4 hB5
        go_wp2_with (go_at_call 17; refine (cctx_count HC6.out).mono ?_; rintro r w8 ⟨rfl, rfl⟩)
        go_roundw
        case rel => exact ⟨k + 1, by omega, by go_num, _, by simp, HC6.out, HB6.out, by simp; exact hsl, by simp; omega⟩
        case measure => simp [intOf]; omega
      · go_wp2_with fail
        rw [HEJ.out, HEX.out]
        clear HEJ HEX
        refine (HK.out _).mono ?_
        rintro r w4 ⟨rfl, hb⟩
        have HC4 := Lib.hid (HC.out.below hb)
        have HB4 := Lib.hid (HB.out.below hb HB.out.lt)
        clear HC HB hb HK
        go_wp2_with fail
        refine (cctx_swap HC4.out hcc (j : Int) (x : Int)).mono ?_
        rw [swap_in hj hx0 hx1]
        rintro r w5 ⟨rfl, hC, hO⟩
        have hB5 := blk_onl HB4.out hO (HM.out)
        have c1 : w5.cell? ⟨bl, j, none⟩ = some (.int .i64 s.l[j]) := (hB5.cell j).trans (by rw [List.getElem?_toArray]; exact nums_get s.l j hj)
        have f1 := hB5.fr j
        have HC6 := Lib.hid (hC.other (onl_set (S := fun q => q = bl) (onl_refl _ w5) (p := ⟨bl, j, none⟩) (.inl rfl) (.int .i64 (x : Int))) (fun e => HM.out (.inl e.symm)) (fun e => HM.out (.inr e.symm)) (by rintro q rfl; exact HG.out))
        have HB6 := Lib.hid (put_blk hB5 j (x : Int))
        clear hC hO HC4 HB4 hB5
        generalize s.l[j] = y at *
        go_wp2_with (go_at_call 17; refine (cctx_count HC6.out).mono ?_; rintro r w8 ⟨rfl, rfl⟩)
        go_roundw
        case rel => exact ⟨k + 1, by omega, by go_num, _, by simp, HC6.out, HB6.out, by simp; exact hsl, by simp; omega⟩
        case measure => simp [intOf]; omega
      · go_wp2_with fail
        rw [HEJ.out, HEX.out]
        clear HEJ HEX
        refine (HK.out _).mono ?_
        rintro r w4 ⟨rfl, hb⟩
        have HC4 := Lib.hid (HC.out.below hb)
        have HB4 := Lib.hid (HB.out.below hb HB.out.lt)
        clear HC HB hb HK
        go_wp2_with fail
        refine (cctx_reset HC4.out (j : Int) 1 (by omega) (by omega)).mono ?_
        rw [reset_one hj]
        rintro r w5 ⟨rfl, hC, hO⟩
        have hB5 := blk_onl HB4.out hO (HM.out)
        have c1 : w5.cell? ⟨bl, j, none⟩ = some (.int .i64 s.l[j]) := (hB5.cell j).trans (by rw [List.getElem?_toArray]; exact nums_get s.l j hj)
        have f1 := hB5.fr j
        have HC6 := Lib.hid (hC.other (onl_set (S := fun q => q = bl) (onl_refl _ w5) (p := ⟨bl, j, none⟩) (.inl rfl) (.int .i64 0)) (fun e => HM.out (.inl e.symm)) (fun e => HM.out (.inr e.symm)) (by rintro q rfl; exact HG.out))
        have HB6 := Lib.hid (put_blk hB5 j 0)
        clear hC hO HC4 HB4 hB5
        go_wp2_with (go_at_call 17; refine (cctx_count HC6.out).mono ?_; rintro r w8 ⟨rfl, rfl⟩)
        go_roundw
        case rel => exact ⟨k + 1, by omega, by go_num, _, by simp, HC6.out, HB6.out, by simp; exact hsl, by simp; omega⟩
        case measure => simp [intOf]; omega
    · obtain rfl : k = L.length := by omega
      have hL16 : s.l.length ≤ 1073741824 := by omega
      clear hlt
      go_wp2
      go_region_held3 (fun w' => CCtx w w' ma la s ∧ Blk w' bl 53 (nums s.l).toArray) (first | exact ⟨hC, hB⟩ | exact ⟨hC.drew, hB⟩)
        (first
          | (go_at_call 16; refine (cctx_all (by first | exact hC | exact hC.drew)).mono ?_; rintro r w' ⟨v1, rfl, hO, hC', hb⟩; have hB := (show Blk w' bl 53 (nums s.l).toArray from by first | exact hB.below hb hB.lt | exact hB.drew.below hb hB.drew.lt); have hC := hC')
          | (go_at_call 18; refine (same_yes (l := s.l) (by first | exact IntsIn.of_own hO rfl | exact (IntsIn.of_own hO rfl).drewN 1) (by first | exact arr_in hB hsl | exact arr_in hB.drew hsl) hL16).mono ?_; rintro r w' ⟨rfl, k9, rfl⟩; have hC := hC.drewN k9; have hB := hB.drewN k9))
      go_wp2
      go_ret
      exact ⟨rfl, hC.bel⟩
theorem cellLast_law (A : Option Addr) (len cap : Nat) (l : List St) (W : World) (hs : StsIn W (.slice A len cap) l) (hlc : len ≤ cap) (hcap : cap ≤ maxLen) (hL : laidC W) :
    Calls Tryd.prog 8 #[.slice A len cap] W fun r w' => r = .returned (.bool true) ∧ Below W.heap.size W w' := law_cellLast A len cap l (err_of_laid hL) hs hlc hcap
end Go.Proofs.YtkamcjejongmbaaDoor
