/- A register of four slots: a write begins. -/
import Derived.Test.YtmcelldklmjlkaaDoorFourD
import Derived.Deep.CutBlock
import Derived.Deep.DeepCutAuto
import Derived.StillTailTactics
namespace Go.Proofs.YtmcelldklmjlkaaDoor
open Go.RowKit

theorem run_mkf (P : Program) (fn : Fn) (first cap : Array Value) (w : World) : (Instr.makeFunc fn first cap).run P w = .ok (.func fn first cap) w := rfl
theorem events_mkf (P : Program) (fn : Fn) (first cap : Array Value) (w : World) (es : Array Event) : (Instr.makeFunc fn first cap).events P w es = es := rfl
attribute [local go_sem] run_mkf events_mkf
theorem infoFn : (Tryd.prog.info? 1).map (fun i => (i.zero, i.size, i.bytes)) = some (some .nilFunc, 1, 8) := by kernel_rfl
theorem range_next (f g : Nat → Value) (n : Nat) (h : ∀ j, j < n → f j = g j) : (List.range n).map f ++ [g n] = (List.range (n + 1)).map g := by
  rw [List.range_succ, List.map_append]
  congr 1
  exact List.map_congr_left fun j hj => h j (List.mem_range.1 hj)
theorem wfn_same {xr xs W j k : Nat} {xi yi : Nat → Nat} (h : ∀ i, i < k → xi i = yi i) (hj : j < 2 + k) (hk : k ≤ W) : wfn xr xs xi W j = wfn xr xs yi W j := by
  unfold wfn
  by_cases h0 : j = 0
  · rw [if_pos h0, if_pos h0]
  by_cases h1 : j = 1
  · rw [if_neg h0, if_pos h1, if_neg h0, if_pos h1]
  rw [if_neg h0, if_neg h1, if_pos (by omega), if_neg h0, if_neg h1, if_pos (by omega), h (j - 2) (by omega)]
section
variable {w w' : World} {B b mb lb : Nat} {X Z : Nat → Prop} {s : FS} {vl vi vr vo v : Value} {c : Int} {l : List Int}
/-- What is left is a row of the call's own. -/
theorem fns_own {base n : Nat} {xs : List Value} {e : TypeId} (h : w.ownsRow base e 1 v n xs) (hp : 0 < n) (hz : ∀ k, base ≤ k → k < w.heap.size → Z k) : FnsX w Z v xs := by
  have hn : n = xs.length := by have := h.1; omega
  subst hn
  obtain ⟨g, cap, rfl, hg, hlt, hcap, hcell, _⟩ := own_pos h hp
  refine ⟨_, cap, rfl, hcap, fun _ => ⟨g, 0, rfl, hz g hg hlt, fun i hi => ?_⟩⟩
  rw [Nat.zero_add, hcell i (by omega), List.getElem?_eq_getElem hi]
set_option maxRecDepth 100000 in
set_option maxHeartbeats 3200000 in
theorem write_begin (h : FAt w B b mb lb X Z s (.slice none 0 0) vi vr vo c) (hv : IntsIn w v l) (hl : l.length = s.W) (hok : allOk l) (hW1 : 1 ≤ s.W) (hW : s.W ≤ 6) :
    Calls Tryd.prog 33 #[.pointer (some ⟨b, 0, none⟩), v] w fun e w' => e = .returned (.int .i64 0) ∧ ∃ vl' vi' Z', FAt w' B b mb lb X Z' { s with iw := s.W + 4, il := l } vl' vi' vr vo c ∧ LeftW w' Z' b s.W (s.W + 4) vl' ∧ (∀ k, Z k → Z' k) ∧ Only (regS b mb lb) w w' := by
  have hba := below_alloc (w := w) (Nat.le_refl _) (.cells #[.pointer (some ⟨b, 0, none⟩)] 78)
  have h2 := h.below hba
  have c0 := h2.c0
  have c2 := h2.c2
  have hv2 := hv.below hba
  have HC := Lib.hid (contains_any hv2 (by omega))
  have hd : (!decide (allOk l)) = false := by simp [hok]
  rw [hd] at HC
  have hbl := h.r.lt
  -- the world behind the two boxes
  have hbs : Below w.heap.size w ((w.alloc (.cells #[.pointer (some ⟨b, 0, none⟩)] 78)).alloc (.cells #[.pointer (some ⟨b, 2, none⟩)] 105)) := hba.trans (below_alloc (w := w.alloc (.cells #[.pointer (some ⟨b, 0, none⟩)] 78)) (B := w.heap.size) (by simp) (.cells #[.pointer (some ⟨b, 2, none⟩)] 105))
  have HXS := Lib.hid (show Blk ((w.alloc (.cells #[.pointer (some ⟨b, 0, none⟩)] 78)).alloc (.cells #[.pointer (some ⟨b, 2, none⟩)] 105)) (w.heap.size + 1) 105 #[.pointer (some ⟨b, 2, none⟩)] from heap_alloc2_new w _ _)
  have HXR := Lib.hid (show Blk ((w.alloc (.cells #[.pointer (some ⟨b, 0, none⟩)] 78)).alloc (.cells #[.pointer (some ⟨b, 2, none⟩)] 105)) w.heap.size 78 #[.pointer (some ⟨b, 0, none⟩)] from heap_alloc2_old w _ _)
  have ks : ((w.alloc (.cells #[.pointer (some ⟨b, 0, none⟩)] 78)).alloc (.cells #[.pointer (some ⟨b, 2, none⟩)] 105)).cell? ⟨w.heap.size + 1, 0, none⟩ = some (.pointer (some ⟨b, 2, none⟩)) := (Blk.cell HXS.out 0).trans rfl
  have HBS := Lib.hid hbs
  have HV := Lib.hid hv
  have HH := Lib.hid h
  obtain ⟨A, cc, rfl, -⟩ := hv
  have b1 : ((l.length : Int) != (s.W : Int)) = false := by simp; omega
  have HL := Lib.hid hl
  have hl6 : l.length ≤ 6 := by omega
  clear h h2 hv2 hok hd hba hbs hl
  go_enter Tryd.func33, Tryd.ntmps33
  go_wp2_with fail
  refine HC.out.mono ?_
  rintro e w' ⟨rfl, rfl⟩
  go_upto_region 7 with (fail)
  go_cut [2, 6] (fun p q wx => p = .pointer (some ⟨w.heap.size, 0, none⟩) ∧ q = .pointer (some ⟨w.heap.size + 1, 0, none⟩) ∧ ∃ vi', FAt wx B b mb lb X (newX Z w wx) { s with il := l } (.slice none 0 0) vi' vr vo c ∧ Blk wx w.heap.size 78 #[.pointer (some ⟨b, 0, none⟩)] ∧ Blk wx (w.heap.size + 1) 105 #[.pointer (some ⟨b, 2, none⟩)] ∧ Only (regS b mb lb) w wx ∧ w.heap.size + 2 ≤ wx.heap.size)
  case first =>
    go_wp2_with fail
    generalize ((w.alloc (.cells #[.pointer (some ⟨b, 0, none⟩)] 78)).alloc (.cells #[.pointer (some ⟨b, 2, none⟩)] 105)) = wS at *
    refine wp_region_held_drew (S := fun w' => w'.cell? ⟨w.heap.size + 1, 0, none⟩ = some (.pointer (some ⟨b, 2, none⟩))) rfl (show wS.drew.cell? _ = _ from ks) fun hS => ?_
    refine wpAnyH_take (i := 0) (v := .pointer (some ⟨b, 2, none⟩)) rfl (by kernel_rfl) (by kernel_rfl) (by kernel_rfl) (fun _ _ _ h => h) (Or.inl ⟨by kernel_rfl, fun w' hS' => by have q : w'.cell? ⟨w.heap.size + 1, 0, none⟩ = some (.pointer (some ⟨b, 2, none⟩)) := hS'; go_simp⟩) hS ?_
    refine wpAnyH_take (i := 1) (v := .slice A l.length cc) rfl (by kernel_rfl) (by kernel_rfl) (by kernel_rfl) (fun _ _ _ h => h) (Or.inl ⟨by kernel_rfl, fun w' _ => by kernel_rfl⟩) hS ?_
    refine wpAnyH_ready (rs := [2]) (by kernel_rfl) (by simp) ?_
    refine AllReadyH.cons rfl (fun K hK => ?_) AllReadyH.nil
    go_simp
    have HBD := Lib.hid (show Below w.heap.size w wS.drew from HBS.out.drew)
    refine (clone_any (w := wS.drew) (HV.out.below HBD.out) (by omega)).mono ?_
    rintro e wk ⟨v', rfl, ho, hbk⟩
    have hxsl : w.heap.size + 1 < wS.heap.size := HXS.out.lt
    refine hK.out _ _ ((hbk.cell (p := ⟨w.heap.size + 1, 0, none⟩) hxsl).trans hS) fun hS2 => ?_
    clear hK
    have HBK := Lib.hid (HBD.out.trans (hbk.mono HBD.out.size))
    have HXS2 := Lib.hid (show Blk wk (w.heap.size + 1) 105 #[.pointer (some ⟨b, 2, none⟩)] from (show Blk wS.drew _ _ _ from HXS.out).below hbk hxsl)
    have HXR2 := Lib.hid (show Blk wk w.heap.size 78 #[.pointer (some ⟨b, 0, none⟩)] from (show Blk wS.drew _ _ _ from HXR.out).below hbk HXR.out.lt)
    have hix : IntsX wk (newX Z w wk) v' l := IntsX.own ho rfl HBD.out.size
    have hF := (HH.out.grow HBK.out).words hix
    have HF := Lib.hid hF
    have hF0 := HH.out.grow HBK.out
    have k5 := hF0.c5
    have f5 := hF0.r.fr 5
    obtain ⟨Av, cv, rfl⟩ := own_form ho
    have hlk : w.heap.size + 2 ≤ wk.heap.size := by have := HXS2.out.lt; omega
    clear ho hbk hix hF hF0 HXS HXR
    refine wpAnyH_take (i := 3) (v := .pointer (some ⟨b, 2, none⟩)) rfl (by kernel_rfl) (by kernel_rfl) (by kernel_rfl) (fun _ _ _ h => h) (Or.inl ⟨by kernel_rfl, fun w' _ => by kernel_rfl⟩) hS2 ?_
    refine wpAnyH_take (i := 4) (v := .pointer (some ⟨b, 5, none⟩)) rfl (by kernel_rfl) (by kernel_rfl) (by kernel_rfl) (fun _ _ _ h => h) (Or.inl ⟨by kernel_rfl, fun w' _ => by kernel_rfl⟩) hS2 ?_
    refine wpAnyH_ready (rs := [5]) (by kernel_rfl) (by simp) ?_
    refine AllReadyH.cons rfl (fun K hK => ?_) AllReadyH.nil
    go_simp
    have hbx : b ≠ w.heap.size + 1 := by omega
    have hbx0 : b ≠ w.heap.size := by omega
    refine hK.out _ _ ((cell_far hbx).trans hS2) fun hS3 => ?_
    clear hK
    refine wpAnyH_done (by kernel_rfl) ?_ _
    go_simp
    go_wp2
    go_meet
    exact ⟨rfl, rfl, _, by have := HF.out; exact ⟨this.r, this.m, this.il.mono fun k e => e.imp id fun e => ⟨e.1, by simpa [World.setCell] using e.2⟩, this.ol, fun g hg => ⟨(this.so g hg).1, fun e => (this.so g hg).2.1 (e.imp id fun e => ⟨e.1, by simpa [World.setCell] using e.2⟩), (this.so g hg).2.2⟩, fun k e => this.z k (e.imp id fun e => ⟨e.1, by simpa [World.setCell] using e.2⟩), this.x⟩,
      HXR2.out.far (p := ⟨b, 5, none⟩) (Ne.symm hbx0) _, HXS2.out.far (p := ⟨b, 5, none⟩) (Ne.symm hbx) _, onl_set (onl_mono (S := fun _ => False) (onl_below HBK.out) (fun _ e => e.elim)) (p := ⟨b, 5, none⟩) (.inl (.inl rfl)) _, by simpa [World.setCell] using hlk⟩
  case rest =>
    obtain ⟨rfl, rfl, vi', hF, hR, hS, hO, hsz⟩ := hcut
    obtain ⟨A', c', hvi, -⟩ := hF.il.form
    simp only at hvi
    subst hvi
    obtain ⟨i0, hi0, hz0, hz1, hz2⟩ := info_parts infoFn
    have k5 := hF.c5
    have kxs : wc.cell? ⟨w.heap.size + 1, 0, none⟩ = some (.pointer (some ⟨b, 2, none⟩)) := (hS.cell 0).trans rfl
    have hrl := hR.lt
    have hsl := hS.lt
    have HF := Lib.hid hF
    have HR := Lib.hid hR
    have HSD := Lib.hid hS
    have HO := Lib.hid hO
    have hbwc : b < wc.heap.size := hF.r.lt
    obtain ⟨xr, hxr⟩ : ∃ xr, xr = w.heap.size := ⟨_, rfl⟩
    obtain ⟨xs, hxs⟩ : ∃ xs, xs = w.heap.size + 1 := ⟨_, rfl⟩
    rw [← hxr] at HR hrl
    rw [← hxs] at kxs HSD hsl
    have HX := Lib.hid (And.intro hxr hxs)
    have HO0 := Lib.hid (World.ownsRow_lit (base := wc.heap.size) (e := 1) (size := 1) wc #[.func (.func 51) #[] #[.pointer (some ⟨xr, 0, none⟩), .pointer (some ⟨xs, 0, none⟩)], .func (.func 53) #[] #[.pointer (some ⟨xr, 0, none⟩), .pointer (some ⟨xs, 0, none⟩)]] 2 (Nat.le_refl _) (by decide) rfl)
    rw [← hxr, show xr + 1 = xs by omega]
    clear hF hR hS hO hsz HXS HXR HBS HV HH HC ks c0 c2 hbl hxr hxs
    go_wp2_with fail
    go_loopw [7, 50] (fun v i wx => ∃ (k : Nat) (xi : Nat → Nat), k ≤ l.length ∧ i = .int .i64 k ∧ wx.ownsRow wc.heap.size 1 1 v (2 + k) ((List.range (2 + k)).map (wfn xr xs xi l.length)) ∧ (∀ j, j < k → Blk wx (xi j) 3 #[.int .i64 j] ∧ wc.heap.size ≤ xi j ∧ v.ownBlock ≠ some (xi j)) ∧ Below wc.heap.size wc wx) (fun _ i _ => l.length - (intOf i).toNat)
    case atStart => exact ⟨0, fun _ => 0, Nat.zero_le _, rfl, HO0.out, fun j hj => by omega, below_alloc (Nat.le_refl _) _⟩
    case round =>
      clear HO0
      obtain ⟨k, xi, hk, rfl, ho, hbx, hbel⟩ := hrel
      obtain ⟨Av, cv, rfl⟩ := own_form ho
      have HOW := Lib.hid ho
      have HBX := Lib.hid hbx
      have HBE := Lib.hid hbel
      have hwr : wc.heap.size ≤ wr.heap.size := hbel.size
      by_cases hlt : k < l.length
      · have b1' : (k : Int) < (l.length : Int) := by omega
        have hol : ∀ g, (Value.slice Av (2 + k) cv).ownBlock = some g → wc.heap.size ≤ g ∧ g < wr.heap.size := fun g hg => ho.lt g hg
        have HOL := Lib.hid hol
        clear ho hbx hbel hol
        go_wp2_with (at_builtin; go_loud (refine wpList_append_lies _ rfl _ _ 98 rfl wc.heap.size 1 i0 .nilFunc 1 8 Tryd.underlying98 hi0 hz0 hz1 hz2 rfl (by decide) (.slice Av (2 + k) cv) (2 + k) ((List.range (2 + k)).map (wfn xr xs xi l.length)) rfl ((HOW.out.alloc (.cells #[.int .i64 (k : Int)] 3)).alloc (.cells #[.func (.func 54) #[] #[.pointer (some ⟨xr, 0, none⟩), .pointer (some ⟨xs, 0, none⟩), .pointer (some ⟨wr.heap.size, 0, none⟩)]] 1)) ⟨wr.heap.size + 1, 0, none⟩ 1 1 [.func (.func 54) #[] #[.pointer (some ⟨xr, 0, none⟩), .pointer (some ⟨xs, 0, none⟩), .pointer (some ⟨wr.heap.size, 0, none⟩)]] (by simp [Act.eval]) rfl (by have := one_new (wr.alloc (.cells #[.int .i64 (k : Int)] 3)) 1 (.func (.func 54) #[] #[.pointer (some ⟨xr, 0, none⟩), .pointer (some ⟨xs, 0, none⟩), .pointer (some ⟨wr.heap.size, 0, none⟩)]); simpa using this) (by simp [Value.oneCell']) (by omega) (by simp [maxLen]; omega) (by omega) (by simp; omega) (wr.heap.size + 2) (by simp) ?_))
        intro g cap w3 hown hg hat hlt3
        have hb3 : Below wc.heap.size wc w3 := ((HBE.out.trans (below_alloc (w := wr) hwr (.cells #[.int .i64 (k : Int)] 3))).trans (below_alloc (w := wr.alloc (.cells #[.int .i64 (k : Int)] 3)) (by simp; omega) (.cells #[.func (.func 54) #[] #[.pointer (some ⟨xr, 0, none⟩), .pointer (some ⟨xs, 0, none⟩), .pointer (some ⟨wr.heap.size, 0, none⟩)]] 1))).grown hg (by simp; omega) (fun q hq => (HOL.out q hq).1)
        have hn3 : ∀ q, q < wr.heap.size + 2 → (Value.slice Av (2 + k) cv).ownBlock ≠ some q → w3.heap[q]? = ((wr.alloc (.cells #[.int .i64 (k : Int)] 3)).alloc (.cells #[.func (.func 54) #[] #[.pointer (some ⟨xr, 0, none⟩), .pointer (some ⟨xs, 0, none⟩), .pointer (some ⟨wr.heap.size, 0, none⟩)]] 1)).heap[q]? := fun q hq hn => hg.block q (by simp; omega) (fun e => hn e.symm)
        have HREL := Lib.hid (show ∃ xi' : Nat → Nat, w3.ownsRow wc.heap.size 1 1 (.slice (some ⟨g, 0, none⟩) (2 + k + 1) cap) (2 + (k + 1)) ((List.range (2 + (k + 1))).map (wfn xr xs xi' l.length)) ∧ (∀ j, j < k + 1 → Blk w3 (xi' j) 3 #[.int .i64 j] ∧ wc.heap.size ≤ xi' j ∧ (Value.slice (some ⟨g, 0, none⟩) (2 + k + 1) cap).ownBlock ≠ some (xi' j)) from by
          refine ⟨fun j => if j = k then wr.heap.size else xi j, ?_, fun j hj => ?_⟩
          · have e1 : (List.range (2 + k)).map (wfn xr xs xi l.length) ++ [.func (.func 54) #[] #[.pointer (some ⟨xr, 0, none⟩), .pointer (some ⟨xs, 0, none⟩), .pointer (some ⟨wr.heap.size, 0, none⟩)]] = (List.range (2 + k + 1)).map (wfn xr xs (fun j => if j = k then wr.heap.size else xi j) l.length) := by
              rw [← range_next (wfn xr xs xi l.length) (wfn xr xs (fun j => if j = k then wr.heap.size else xi j) l.length) (2 + k) (fun j hj => wfn_same (k := k) (fun i hi => by simp; omega) hj hk)]
              congr 2
              unfold wfn
              rw [if_neg (by omega), if_neg (by omega), if_pos (by omega)]
              simp
            rw [e1] at hown
            exact hown
          · by_cases e : j = k
            · subst e
              simp only [if_true]
              refine ⟨?_, hwr, fun e => ?_⟩
              · refine Blk.of (w := wr.alloc (.cells #[.int .i64 (j : Int)] 3)) (heap_alloc_new wr _) ?_
                rw [hn3 _ (by omega) (fun e => by have := (HOL.out _ e).2; omega), Below.heap_alloc _ _ _ (by simp)]
              · simp only [Value.ownBlock, Option.some.injEq] at e
                rcases hat with h' | h'
                · have := (HOL.out _ h').2; omega
                · omega
            · have hj' : j < k := by omega
              obtain ⟨q1, q2, q3⟩ := HBX.out j hj'
              have q1l := q1.lt
              simp only [if_neg e]
              refine ⟨q1.of ?_, q2, fun e => ?_⟩
              · rw [hn3 _ (by omega) q3, Below.heap_alloc _ _ _ (by simp; omega), Below.heap_alloc _ _ _ q1l]
              · simp only [Value.ownBlock, Option.some.injEq] at e
                rcases hat with h' | h'
                · exact q3 (h'.trans (by rw [← e]))
                · omega)
        have HB3 := Lib.hid hb3
        clear hown hg hat hlt3 hb3 hn3 HOL HOW HBX HBE
        go_wp2_with fail
        go_roundw
        case rel => exact ⟨k + 1, HREL.out.choose, by omega, by go_num, HREL.out.choose_spec.1, HREL.out.choose_spec.2, HB3.out⟩
        case measure => simp [intOf]; omega
      · obtain rfl : k = l.length := by omega
        have b1' : ¬ (l.length : Int) < (l.length : Int) := by omega
        have hol : ∀ g, (Value.slice Av (2 + l.length) cv).ownBlock = some g → wc.heap.size ≤ g ∧ g < wr.heap.size := fun g hg => ho.lt g hg
        have HOL := Lib.hid hol
        have kxr : wr.drew.cell? ⟨xr, 0, none⟩ = some (.pointer (some ⟨b, 0, none⟩)) := ((hbel.cell (p := ⟨xr, 0, none⟩) hrl).trans ((HR.out.cell 0).trans rfl))
        have hbd : Below wc.heap.size wc wr.drew := hbel.drew
        have HBD := Lib.hid hbd
        clear ho hbx hbel hol hbd
        go_wp2_with fail
        refine wp_region_held_drew (S := fun w' => w'.cell? ⟨xr, 0, none⟩ = some (.pointer (some ⟨b, 0, none⟩))) rfl kxr fun hS => ?_
        refine wpAnyH_take (i := 0) (v := .pointer (some ⟨b, 0, none⟩)) rfl (by kernel_rfl) (by kernel_rfl) (by kernel_rfl) (fun _ _ _ h => h) (Or.inl ⟨by kernel_rfl, fun w' hS' => by have q : w'.cell? ⟨xr, 0, none⟩ = some (.pointer (some ⟨b, 0, none⟩)) := hS'; go_simp⟩) hS ?_
        refine wpAnyH_take (i := 1) (v := .slice Av (2 + l.length) cv) rfl (by kernel_rfl) (by kernel_rfl) (by kernel_rfl) (fun _ _ _ h => h) (Or.inl ⟨by kernel_rfl, fun w' _ => by kernel_rfl⟩) hS ?_
        refine wpAnyH_take (i := 2) (v := .func (.func 58) #[] #[.pointer (some ⟨xr, 0, none⟩), .pointer (some ⟨xs, 0, none⟩)]) rfl (by kernel_rfl) (by kernel_rfl) (by kernel_rfl) (fun _ _ _ h => h) (Or.inl ⟨by kernel_rfl, fun w' _ => by kernel_rfl⟩) hS ?_
        refine wpAnyH_take (i := 3) (v := .func (.func 59) #[] #[.pointer (some ⟨xr, 0, none⟩), .pointer (some ⟨xs, 0, none⟩)]) rfl (by kernel_rfl) (by kernel_rfl) (by kernel_rfl) (fun _ _ _ h => h) (Or.inl ⟨by kernel_rfl, fun w' _ => by kernel_rfl⟩) hS ?_
        refine wpAnyH_ready (rs := [4]) (by kernel_rfl) (by simp) ?_
        refine AllReadyH.cons rfl (fun K hK => ?_) AllReadyH.nil
        go_simp
        have k2 : (wr.drew.alloc (.cells #[.func (.func 58) #[] #[.pointer (some ⟨xr, 0, none⟩), .pointer (some ⟨xs, 0, none⟩)], .func (.func 59) #[] #[.pointer (some ⟨xr, 0, none⟩), .pointer (some ⟨xs, 0, none⟩)]] 1)).cell? ⟨xr, 0, none⟩ = some (.pointer (some ⟨b, 0, none⟩)) := (World.cell?_alloc_some _ _ _ (by rw [hS]; rfl)).trans hS
        refine hK.out _ _ k2 fun hS2 => ?_
        clear hK
        refine wpAnyH_ready (rs := [5]) (by kernel_rfl) (by simp) ?_
        refine AllReadyH.cons rfl (fun K hK => ?_) AllReadyH.nil
        refine step_append_lies _ rfl _ _ 98 rfl wc.heap.size 1 i0 .nilFunc 1 8 Tryd.underlying98 hi0 hz0 hz1 hz2 rfl (by decide) (.slice Av (2 + l.length) cv) (2 + l.length) ((List.range (2 + l.length)).map (wfn xr xs xi l.length)) (by kernel_rfl) ((show wr.drew.ownsRow _ _ _ _ _ _ from HOW.out).alloc (.cells #[.func (.func 58) #[] #[.pointer (some ⟨xr, 0, none⟩), .pointer (some ⟨xs, 0, none⟩)], .func (.func 59) #[] #[.pointer (some ⟨xr, 0, none⟩), .pointer (some ⟨xs, 0, none⟩)]] 1)) ⟨wr.heap.size, 0, none⟩ 2 2 [.func (.func 58) #[] #[.pointer (some ⟨xr, 0, none⟩), .pointer (some ⟨xs, 0, none⟩)], .func (.func 59) #[] #[.pointer (some ⟨xr, 0, none⟩), .pointer (some ⟨xs, 0, none⟩)]] (by kernel_rfl) rfl (fun j u hj => ?_) (by simp [Value.oneCell']) (by omega) (by simp [maxLen]; omega) (by omega) (by show wc.heap.size ≤ (wr.drew.alloc _).heap.size; have := HBD.out.size; simp; omega) (wr.heap.size + 1) (by simp) ?_
        · have e : (⟨wr.heap.size, 0, none⟩ : Addr).add j = ⟨wr.heap.size, j, none⟩ := by unfold Addr.add; split <;> simp_all
          rw [e]
          show (wr.alloc (.cells #[.func (.func 58) #[] #[.pointer (some ⟨xr, 0, none⟩), .pointer (some ⟨xs, 0, none⟩)], .func (.func 59) #[] #[.pointer (some ⟨xr, 0, none⟩), .pointer (some ⟨xs, 0, none⟩)]] 1)).cell? ⟨wr.heap.size, j, none⟩ = some u
          rw [World.cell?_alloc_at _ _ _ _ rfl]
          simpa using hj
        intro g cap w3 hown hg hat hlt3
        have hb3 : Below wc.heap.size wc w3 := (HBD.out.trans (below_alloc (w := wr.drew) hwr (.cells #[.func (.func 58) #[] #[.pointer (some ⟨xr, 0, none⟩), .pointer (some ⟨xs, 0, none⟩)], .func (.func 59) #[] #[.pointer (some ⟨xr, 0, none⟩), .pointer (some ⟨xs, 0, none⟩)]] 1))).grown hg (by simp; omega) (fun q hq => (HOL.out q hq).1)
        have hn3 : ∀ q, q < wr.heap.size → (Value.slice Av (2 + l.length) cv).ownBlock ≠ some q → w3.heap[q]? = wr.heap[q]? := fun q hq hn => (hg.block q (by simp; omega) (fun e => hn e.symm)).trans (Below.heap_alloc wr.drew _ _ hq)
        have e1 : (List.range (2 + l.length)).map (wfn xr xs xi l.length) ++ [.func (.func 58) #[] #[.pointer (some ⟨xr, 0, none⟩), .pointer (some ⟨xs, 0, none⟩)], .func (.func 59) #[] #[.pointer (some ⟨xr, 0, none⟩), .pointer (some ⟨xs, 0, none⟩)]] = lastOf (wfn xr xs xi l.length) (l.length + 4) (l.length + 4) := by
          unfold lastOf
          rw [show l.length + 4 = 2 + l.length + 1 + 1 by omega, List.range_succ, List.range_succ]
          simp only [List.map_append, List.map_cons, List.map_nil, List.append_assoc, List.cons_append, List.nil_append, Nat.sub_self, Nat.zero_add]
          congr 1
          · unfold wfn
            rw [if_neg (by omega), if_neg (by omega), if_neg (by omega), if_pos rfl, if_neg (by omega), if_neg (by omega), if_neg (by omega), if_neg (by omega)]
        rw [e1] at hown
        have HB3 := Lib.hid hb3
        have hF3 := HF.out.below hb3
        have HG3 := Lib.hid (HF.out.grow hb3)
        have HBG := Lib.hid (begins_w (A := some ⟨g, 0, none⟩) (n := 2 + l.length + 2) (cc := cap) hF3)
        have hc2 := HG3.out.c2
        have HBOX := Lib.hid (show Boxes w3 (newX (newX Z w wc) wc w3) b 2 l.length xr xs xi from
          ⟨⟨.inl (.inr ⟨by have := HX.out.1; omega, hrl⟩), HR.out.below hb3 hrl⟩, ⟨.inl (.inr ⟨by have := HX.out.2; omega, hsl⟩), HSD.out.below hb3 hsl⟩, fun j hj => by
            obtain ⟨q1, q2, q3⟩ := HBX.out j hj
            have ql := q1.lt
            exact ⟨.inr ⟨q2, by have := hg.size; simp at this; omega⟩, q1.of (hn3 _ ql q3)⟩⟩)
        have HFN := Lib.hid (fns_own (Z := newX (newX Z w wc) wc w3) hown (by omega) (fun q h1 h2 => .inr ⟨h1, h2⟩))
        have hOn : Only (regS b mb lb) w w3 := onl_trans HO.out (onl_mono (S := fun _ => False) (onl_below hb3) (fun _ e => e.elim))
        have HON := Lib.hid hOn
        refine hK.out _ _ ((hb3.cell (p := ⟨xr, 0, none⟩) hrl).trans ((HR.out.cell 0).trans rfl)) fun hS3 => ?_
        clear hK hown hg hat hlt3 hb3 hn3 hF3 hOn hS hS2 k2
        refine wpAnyH_ready (rs := [6]) (by kernel_rfl) (by simp) ?_
        refine AllReadyH.cons rfl (fun K hK => ?_) AllReadyH.nil
        go_simp
        refine HBG.out.mono ?_
        rintro e w4 ⟨rfl, rfl⟩
        have hbxr : b ≠ xr := fun e => (HG3.out.z _ HBOX.out.r.1).2.1 (.inl e.symm)
        refine hK.out _ _ ((cell_far hbxr).trans hS3) fun hS4 => ?_
        clear hK
        refine wpAnyH_take (i := 7) (v := .int .i64 0) rfl (by kernel_rfl) (by kernel_rfl) (by kernel_rfl) (fun _ _ _ h => h) (Or.inl ⟨by kernel_rfl, fun w' _ => by kernel_rfl⟩) hS4 ?_
        refine wpAnyH_done (by kernel_rfl) ?_ _
        go_simp
        go_wp2
        go_ret
        have hle := HL.out
        have hF5 := HG3.out.set 2 (.slice (some ⟨g, 0, none⟩) (2 + l.length + 2) cap) (s' := { s with iw := s.W + 4, il := l }) (vl' := .slice (some ⟨g, 0, none⟩) (2 + l.length + 2) cap) (vi' := .slice A' l.length c') (vr' := vr) rfl rfl HG3.out.il rfl
        have hkz : ∀ q, newX (newX Z w wc) wc w3 q → (w3.setCell ⟨b, 2, none⟩ (.slice (some ⟨g, 0, none⟩) (2 + l.length + 2) cap)).heap[q]? = w3.heap[q]? := fun q hq => Below.heap_setCell _ _ _ _ (fun e => (HG3.out.z _ hq).2.1 (.inl e))
        refine ⟨rfl, _, _, _, hF5, .inr ⟨by omega, Nat.le_refl _, xr, xs, xi, ?_, ?_⟩, fun q e => .inl (.inl e), onl_set HON.out (p := ⟨b, 2, none⟩) (.inl (.inl rfl)) _⟩
        · rw [← hle]; exact HBOX.out.keep hkz
        · rw [← hle]; exact HFN.out.keep hkz
end
end Go.Proofs.YtmcelldklmjlkaaDoor
