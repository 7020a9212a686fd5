/- A register of four slots: a read begins. -/
import Derived.Test.YtmcelldklmjlkaaDoorFourE
namespace Go.Proofs.YtmcelldklmjlkaaDoor
open Go.RowKit

attribute [local go_sem] run_mkf events_mkf
theorem rfn_same {xr xs j k : Nat} {xi yi : Nat → Nat} (h : ∀ i, i < k → xi i = yi i) (hj : j < 3 + k) : rfn xr xs xi j = rfn xr xs yi j := by
  unfold rfn
  by_cases h0 : j = 0
  · rw [if_pos h0, if_pos h0]
  by_cases h1 : j = 1
  · rw [if_neg h0, if_pos h1, if_neg h0, if_pos h1]
  by_cases h2 : j = 2
  · rw [if_neg h0, if_neg h1, if_pos h2, if_neg h0, if_neg h1, if_pos h2]
  rw [if_neg h0, if_neg h1, if_neg h2, if_neg h0, if_neg h1, if_neg h2, h (j - 3) (by omega)]
section
variable {w w' : World} {B b mb lb : Nat} {X Z : Nat → Prop} {s : FS} {vl vi vr vo v : Value} {c : Int} {l : List Int}
theorem FAt.clear (h : FAt w B b mb lb X Z s vl vi vr vo c) : FAt (w.setCell ⟨b, 9, none⟩ (.slice none 0 0)) B b mb lb X Z { s with ol := [] } vl vi vr (.slice none 0 0) c := by
  have hne := h.ne
  have hO : Only (fun k => k = b) w (w.setCell ⟨b, 9, none⟩ (.slice none 0 0)) := onl_set (S := fun k => k = b) (onl_refl _ w) (p := ⟨b, 9, none⟩) (.inl rfl) _
  refine ⟨?_, h.m.onl hO (Ne.symm hne.1) (Ne.symm hne.2), h.il.keep fun g hg => hO.block g (h.z g hg).1 fun e => (h.z g hg).2.1 (.inl e), World.ownsRow_nil _ _ _ _, fun g hg => by simp [Value.ownBlock] at hg, fun j e => ⟨Nat.lt_of_lt_of_le (h.z j e).1 hO.size, (h.z j e).2⟩, fun j e => ⟨Nat.lt_of_lt_of_le (h.x j e).1 hO.size, (h.x j e).2⟩⟩
  exact h.r.set 9 (.slice none 0 0)
set_option maxRecDepth 100000 in
set_option maxHeartbeats 3200000 in
theorem read_begin (h : FAt w B b mb lb X Z s vl vi (.slice none 0 0) vo c) (hW1 : 1 ≤ s.W) (hW : s.W ≤ 6) :
    Calls Tryd.prog 38 #[.pointer (some ⟨b, 0, none⟩)] w fun e w' => e = .returned (.int .i64 0) ∧ ∃ vr' Z', FAt w' B b mb lb X Z' { s with ow := s.W + 3, ol := [] } vl vi vr' (.slice none 0 0) c ∧ LeftR w' Z' b s.W (s.W + 3) vr' ∧ (∀ k, Z k → Z' k) ∧ Only (regS b mb lb) w w' := by
  have hba := below_alloc (w := w) (Nat.le_refl _) (.cells #[.pointer (some ⟨b, 0, none⟩)] 78)
  have h2 := h.below hba
  have c6 := h2.c6
  have hbl := h.r.lt
  have hbs : Below w.heap.size w ((w.alloc (.cells #[.pointer (some ⟨b, 0, none⟩)] 78)).alloc (.cells #[.pointer (some ⟨b, 6, none⟩)] 105)) := hba.trans (below_alloc (w := w.alloc (.cells #[.pointer (some ⟨b, 0, none⟩)] 78)) (B := w.heap.size) (by simp) (.cells #[.pointer (some ⟨b, 6, none⟩)] 105))
  have HXS := Lib.hid (show Blk ((w.alloc (.cells #[.pointer (some ⟨b, 0, none⟩)] 78)).alloc (.cells #[.pointer (some ⟨b, 6, none⟩)] 105)) (w.heap.size + 1) 105 #[.pointer (some ⟨b, 6, none⟩)] from heap_alloc2_new w _ _)
  have HXR := Lib.hid (show Blk ((w.alloc (.cells #[.pointer (some ⟨b, 0, none⟩)] 78)).alloc (.cells #[.pointer (some ⟨b, 6, none⟩)] 105)) w.heap.size 78 #[.pointer (some ⟨b, 0, none⟩)] from heap_alloc2_old w _ _)
  have HBS := Lib.hid hbs
  have HH := Lib.hid h
  have h3 := h.below hbs
  have k9 := h3.c9
  have f9 := h3.r.fr 9
  clear h h2 h3 hba hbs
  go_enter Tryd.func38, Tryd.ntmps38
  go_upto_region 4 with (fail)
  go_cut [1, 3] (fun p q wx => p = .pointer (some ⟨w.heap.size, 0, none⟩) ∧ q = .pointer (some ⟨w.heap.size + 1, 0, none⟩) ∧ FAt wx B b mb lb X (newX Z w wx) { s with ol := [] } vl vi (.slice none 0 0) (.slice none 0 0) c ∧ Blk wx w.heap.size 78 #[.pointer (some ⟨b, 0, none⟩)] ∧ Blk wx (w.heap.size + 1) 105 #[.pointer (some ⟨b, 6, none⟩)] ∧ Only (regS b mb lb) w wx ∧ w.heap.size + 2 ≤ wx.heap.size)
  case first =>
    have hs0 : (w.setCell ⟨b, 9, none⟩ (.slice none 0 0)).heap.size = w.heap.size := by simp [World.setCell]
    have hb0 : Below (w.setCell ⟨b, 9, none⟩ (.slice none 0 0)).heap.size (w.setCell ⟨b, 9, none⟩ (.slice none 0 0)) (((w.setCell ⟨b, 9, none⟩ (.slice none 0 0)).alloc (.cells #[.pointer (some ⟨b, 0, none⟩)] 78)).alloc (.cells #[.pointer (some ⟨b, 6, none⟩)] 105)) := (below_alloc (Nat.le_refl _) (.cells #[.pointer (some ⟨b, 0, none⟩)] 78)).trans (below_alloc (w := (w.setCell ⟨b, 9, none⟩ (.slice none 0 0)).alloc (.cells #[.pointer (some ⟨b, 0, none⟩)] 78)) (B := (w.setCell ⟨b, 9, none⟩ (.slice none 0 0)).heap.size) (by simp) (.cells #[.pointer (some ⟨b, 6, none⟩)] 105))
    have hF := HH.out.clear.grow hb0
    have hx1 := heap_alloc2_new (w.setCell ⟨b, 9, none⟩ (.slice none 0 0)) (.cells #[.pointer (some ⟨b, 0, none⟩)] 78) (.cells #[.pointer (some ⟨b, 6, none⟩)] 105)
    have hx0 := heap_alloc2_old (w.setCell ⟨b, 9, none⟩ (.slice none 0 0)) (.cells #[.pointer (some ⟨b, 0, none⟩)] 78) (.cells #[.pointer (some ⟨b, 6, none⟩)] 105)
    have hnx : newX Z (w.setCell ⟨b, 9, none⟩ (.slice none 0 0)) (((w.setCell ⟨b, 9, none⟩ (.slice none 0 0)).alloc (.cells #[.pointer (some ⟨b, 0, none⟩)] 78)).alloc (.cells #[.pointer (some ⟨b, 6, none⟩)] 105)) = newX Z w (((w.setCell ⟨b, 9, none⟩ (.slice none 0 0)).alloc (.cells #[.pointer (some ⟨b, 0, none⟩)] 78)).alloc (.cells #[.pointer (some ⟨b, 6, none⟩)] 105)) := by unfold newX; rw [hs0]
    rw [hnx] at hF
    rw [hs0] at hx0 hx1
    have hOo : Only (regS b mb lb) w (((w.setCell ⟨b, 9, none⟩ (.slice none 0 0)).alloc (.cells #[.pointer (some ⟨b, 0, none⟩)] 78)).alloc (.cells #[.pointer (some ⟨b, 6, none⟩)] 105)) := onl_trans (onl_set (onl_refl _ w) (p := ⟨b, 9, none⟩) (.inl (.inl rfl)) _) (onl_mono (S := fun _ => False) (onl_below hb0) (fun _ e => e.elim))
    have hss : w.heap.size + 2 ≤ (((w.setCell ⟨b, 9, none⟩ (.slice none 0 0)).alloc (.cells #[.pointer (some ⟨b, 0, none⟩)] 78)).alloc (.cells #[.pointer (some ⟨b, 6, none⟩)] 105)).heap.size := by simp [World.setCell]
    have HF := Lib.hid (And.intro hF (And.intro (show Blk (((w.setCell ⟨b, 9, none⟩ (.slice none 0 0)).alloc (.cells #[.pointer (some ⟨b, 0, none⟩)] 78)).alloc (.cells #[.pointer (some ⟨b, 6, none⟩)] 105)) w.heap.size 78 #[.pointer (some ⟨b, 0, none⟩)] from hx0) (And.intro (show Blk (((w.setCell ⟨b, 9, none⟩ (.slice none 0 0)).alloc (.cells #[.pointer (some ⟨b, 0, none⟩)] 78)).alloc (.cells #[.pointer (some ⟨b, 6, none⟩)] 105)) (w.heap.size + 1) 105 #[.pointer (some ⟨b, 6, none⟩)] from hx1) (And.intro hOo hss))))
    clear hF hx0 hx1 hnx hOo hss hb0 hs0
    go_wp2_with fail
    go_meet
    exact ⟨rfl, rfl, HF.out⟩
  case rest =>
    obtain ⟨rfl, rfl, hF, hR, hS, hO, hsz⟩ := hcut
    obtain ⟨i0, hi0, hz0, hz1, hz2⟩ := info_parts infoFn
    have k0 := hF.c0
    have kxs : wc.cell? ⟨w.heap.size + 1, 0, none⟩ = some (.pointer (some ⟨b, 6, none⟩)) := (hS.cell 0).trans rfl
    have kxr0 : wc.cell? ⟨w.heap.size, 0, none⟩ = some (.pointer (some ⟨b, 0, none⟩)) := (hR.cell 0).trans rfl
    have hrl := hR.lt
    have hsl := hS.lt
    have HF := Lib.hid hF
    have HR := Lib.hid hR
    have HSD := Lib.hid hS
    have HO := Lib.hid hO
    have hbwc : b < wc.heap.size := hF.r.lt
    obtain ⟨xr, hxr⟩ : ∃ xr, xr = w.heap.size := ⟨_, rfl⟩
    obtain ⟨xs, hxs⟩ : ∃ xs, xs = w.heap.size + 1 := ⟨_, rfl⟩
    rw [← hxr] at HR hrl kxr0
    rw [← hxs] at kxs HSD hsl
    have HX := Lib.hid (And.intro hxr hxs)
    have HO0 := Lib.hid (World.ownsRow_lit (base := wc.heap.size) (e := 1) (size := 1) wc #[.func (.func 61) #[] #[.pointer (some ⟨xr, 0, none⟩), .pointer (some ⟨xs, 0, none⟩)], .func (.func 62) #[] #[.pointer (some ⟨xr, 0, none⟩), .pointer (some ⟨xs, 0, none⟩)], .func (.func 63) #[] #[.pointer (some ⟨xr, 0, none⟩), .pointer (some ⟨xs, 0, none⟩)]] 3 (Nat.le_refl _) (by decide) rfl)
    have hbxs : b ≠ xs := fun e => by have := hF.z xs (.inr ⟨by omega, by omega⟩); exact this.2.1 (.inl e.symm)
    rw [← hxr, show xr + 1 = xs by omega]
    clear hF hR hS hO hsz HXS HXR HBS HH c6 hbl hxr hxs k9 f9
    go_wp2_with fail
    go_loopw [4, 31] (fun v i wx => ∃ (k : Nat) (xi : Nat → Nat), k ≤ s.W ∧ i = .int .i64 k ∧ wx.ownsRow wc.heap.size 1 1 v (3 + k) ((List.range (3 + k)).map (rfn xr xs xi)) ∧ (∀ j, j < k → Blk wx (xi j) 3 #[.int .i64 j] ∧ wc.heap.size ≤ xi j ∧ v.ownBlock ≠ some (xi j)) ∧ Below wc.heap.size wc wx) (fun _ i _ => s.W - (intOf i).toNat)
    case atStart => exact ⟨0, fun _ => 0, Nat.zero_le _, rfl, HO0.out, fun j hj => by omega, below_alloc (Nat.le_refl _) _⟩
    case round =>
      clear HO0
      obtain ⟨k, xi, hk, rfl, ho, hbx, hbel⟩ := hrel
      obtain ⟨Av, cv, rfl⟩ := own_form ho
      have HOW := Lib.hid ho
      have HBX := Lib.hid hbx
      have HBE := Lib.hid hbel
      have hwr : wc.heap.size ≤ wr.heap.size := hbel.size
      by_cases hlt : k < s.W
      · have b1' : (k : Int) < (s.W : Int) := by omega
        have hol : ∀ g, (Value.slice Av (3 + k) cv).ownBlock = some g → wc.heap.size ≤ g ∧ g < wr.heap.size := fun g hg => ho.lt g hg
        have HOL := Lib.hid hol
        clear ho hbx hbel hol
        go_wp2_with (at_builtin; go_loud (refine wpList_append_lies _ rfl _ _ 98 rfl wc.heap.size 1 i0 .nilFunc 1 8 Tryd.underlying98 hi0 hz0 hz1 hz2 rfl (by decide) (.slice Av (3 + k) cv) (3 + k) ((List.range (3 + k)).map (rfn xr xs xi)) rfl ((HOW.out.alloc (.cells #[.int .i64 (k : Int)] 3)).alloc (.cells #[.func (.func 64) #[] #[.pointer (some ⟨xs, 0, none⟩), .pointer (some ⟨xr, 0, none⟩), .pointer (some ⟨wr.heap.size, 0, none⟩)]] 1)) ⟨wr.heap.size + 1, 0, none⟩ 1 1 [.func (.func 64) #[] #[.pointer (some ⟨xs, 0, none⟩), .pointer (some ⟨xr, 0, none⟩), .pointer (some ⟨wr.heap.size, 0, none⟩)]] (by simp [Act.eval]) rfl (by have := one_new (wr.alloc (.cells #[.int .i64 (k : Int)] 3)) 1 (.func (.func 64) #[] #[.pointer (some ⟨xs, 0, none⟩), .pointer (some ⟨xr, 0, none⟩), .pointer (some ⟨wr.heap.size, 0, none⟩)]); simpa using this) (by simp [Value.oneCell']) (by omega) (by simp [maxLen]; omega) (by omega) (by simp; omega) (wr.heap.size + 2) (by simp) ?_))
        intro g cap w3 hown hg hat hlt3
        have hb3 : Below wc.heap.size wc w3 := ((HBE.out.trans (below_alloc (w := wr) hwr (.cells #[.int .i64 (k : Int)] 3))).trans (below_alloc (w := wr.alloc (.cells #[.int .i64 (k : Int)] 3)) (by simp; omega) (.cells #[.func (.func 64) #[] #[.pointer (some ⟨xs, 0, none⟩), .pointer (some ⟨xr, 0, none⟩), .pointer (some ⟨wr.heap.size, 0, none⟩)]] 1))).grown hg (by simp; omega) (fun q hq => (HOL.out q hq).1)
        have hn3 : ∀ q, q < wr.heap.size + 2 → (Value.slice Av (3 + k) cv).ownBlock ≠ some q → w3.heap[q]? = ((wr.alloc (.cells #[.int .i64 (k : Int)] 3)).alloc (.cells #[.func (.func 64) #[] #[.pointer (some ⟨xs, 0, none⟩), .pointer (some ⟨xr, 0, none⟩), .pointer (some ⟨wr.heap.size, 0, none⟩)]] 1)).heap[q]? := fun q hq hn => hg.block q (by simp; omega) (fun e => hn e.symm)
        have HREL := Lib.hid (show ∃ xi' : Nat → Nat, w3.ownsRow wc.heap.size 1 1 (.slice (some ⟨g, 0, none⟩) (3 + k + 1) cap) (3 + (k + 1)) ((List.range (3 + (k + 1))).map (rfn xr xs xi')) ∧ (∀ j, j < k + 1 → Blk w3 (xi' j) 3 #[.int .i64 j] ∧ wc.heap.size ≤ xi' j ∧ (Value.slice (some ⟨g, 0, none⟩) (3 + k + 1) cap).ownBlock ≠ some (xi' j)) from by
          refine ⟨fun j => if j = k then wr.heap.size else xi j, ?_, fun j hj => ?_⟩
          · have e1 : (List.range (3 + k)).map (rfn xr xs xi) ++ [.func (.func 64) #[] #[.pointer (some ⟨xs, 0, none⟩), .pointer (some ⟨xr, 0, none⟩), .pointer (some ⟨wr.heap.size, 0, none⟩)]] = (List.range (3 + k + 1)).map (rfn xr xs (fun j => if j = k then wr.heap.size else xi j)) := by
              rw [← range_next (rfn xr xs xi) (rfn xr xs (fun j => if j = k then wr.heap.size else xi j)) (3 + k) (fun j hj => rfn_same (k := k) (fun i hi => by simp; omega) hj)]
              congr 2
              unfold rfn
              rw [if_neg (by omega), if_neg (by omega), if_neg (by omega)]
              simp
            rw [e1] at hown
            exact hown
          · by_cases e : j = k
            · subst e
              simp only [if_true]
              refine ⟨?_, hwr, fun e => ?_⟩
              · refine Blk.of (w := wr.alloc (.cells #[.int .i64 (j : Int)] 3)) (heap_alloc_new wr _) ?_
                rw [hn3 _ (by omega) (fun e => by have := (HOL.out _ e).2; omega), Below.heap_alloc _ _ _ (by simp)]
              · simp only [Value.ownBlock, Option.some.injEq] at e
                rcases hat with h' | h'
                · have := (HOL.out _ h').2; omega
                · omega
            · have hj' : j < k := by omega
              obtain ⟨q1, q2, q3⟩ := HBX.out j hj'
              have q1l := q1.lt
              simp only [if_neg e]
              refine ⟨q1.of ?_, q2, fun e => ?_⟩
              · rw [hn3 _ (by omega) q3, Below.heap_alloc _ _ _ (by simp; omega), Below.heap_alloc _ _ _ q1l]
              · simp only [Value.ownBlock, Option.some.injEq] at e
                rcases hat with h' | h'
                · exact q3 (h'.trans (by rw [← e]))
                · omega)
        have HB3 := Lib.hid hb3
        clear hown hg hat hlt3 hb3 hn3 HOL HOW HBX HBE
        go_wp2_with fail
        go_roundw
        case rel => exact ⟨k + 1, HREL.out.choose, by omega, by go_num, HREL.out.choose_spec.1, HREL.out.choose_spec.2, HB3.out⟩
        case measure => simp [intOf]; omega
      · obtain rfl : k = s.W := by omega
        have b1' : ¬ (s.W : Int) < (s.W : Int) := by omega
        have kxr : wr.cell? ⟨xr, 0, none⟩ = some (.pointer (some ⟨b, 0, none⟩)) := ((hbel.cell (p := ⟨xr, 0, none⟩) hrl).trans kxr0)
        have hF3 := HF.out.below hbel
        have HG3 := Lib.hid (HF.out.grow hbel)
        have HBG := Lib.hid (begins_r (A := Av) (n := 3 + s.W) (cc := cv) hF3)
        have e1 : (List.range (3 + s.W)).map (rfn xr xs xi) = lastOf (rfn xr xs xi) (s.W + 3) (s.W + 3) := by
          unfold lastOf
          rw [show s.W + 3 = 3 + s.W by omega]
          simp
        have ho2 := ho
        rw [e1] at ho2
        have HBOX := Lib.hid (show Boxes wr (newX (newX Z w wc) wc wr) b 6 s.W xr xs xi from
          ⟨⟨.inl (.inr ⟨by have := HX.out.1; omega, hrl⟩), HR.out.below hbel hrl⟩, ⟨.inl (.inr ⟨by have := HX.out.2; omega, hsl⟩), HSD.out.below hbel hsl⟩, fun j hj => by
            obtain ⟨q1, q2, q3⟩ := hbx j hj
            exact ⟨.inr ⟨q2, q1.lt⟩, q1⟩⟩)
        have HFN := Lib.hid (fns_own (Z := newX (newX Z w wc) wc wr) ho2 (by omega) (fun q h1 h2 => .inr ⟨h1, h2⟩))
        have hOn : Only (regS b mb lb) w wr := onl_trans HO.out (onl_mono (S := fun _ => False) (onl_below hbel) (fun _ e => e.elim))
        have HON := Lib.hid hOn
        clear ho ho2 hbx hbel hF3 hOn e1 HOW HBX HBE k0 kxs kxr0
        go_wp2_with fail
        refine HBG.out.mono ?_
        rintro e w4 ⟨rfl, rfl⟩
        go_wp2
        go_ret
        have hF5 := HG3.out.set 6 (.slice Av (3 + s.W) cv) (s' := { s with ow := s.W + 3, ol := [] }) (vl' := vl) (vi' := vi) (vr' := .slice Av (3 + s.W) cv) rfl rfl HG3.out.il rfl
        have hkz : ∀ q, newX (newX Z w wc) wc wr q → (wr.setCell ⟨b, 6, none⟩ (.slice Av (3 + s.W) cv)).heap[q]? = wr.heap[q]? := fun q hq => Below.heap_setCell _ _ _ _ (fun e => (HG3.out.z _ hq).2.1 (.inl e))
        exact ⟨rfl, _, _, hF5, .inr ⟨by omega, Nat.le_refl _, xr, xs, xi, HBOX.out.keep hkz, HFN.out.keep hkz⟩, fun q e => .inl (.inl e), onl_set HON.out (p := ⟨b, 6, none⟩) (.inl (.inl rfl)) _⟩
end
end Go.Proofs.YtmcelldklmjlkaaDoor
