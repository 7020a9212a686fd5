/- The reference's log: a list of events. -/
import Derived.Test.YtbnaehfgpilicaaDoorHealthCounts
namespace Go.Proofs.YtbnaehfgpilicaaDoor
open Go.RowKit

/-- v reads as the events l, and lies off the block b. -/
def EvsOff (w : World) (b : Nat) (v : Value) (l : List Ev) : Prop :=
  ∃ A c, v = .slice A l.length c ∧ l.length ≤ c ∧ (l = [] → A = none ∧ c = 0) ∧ (0 < l.length → ∃ g o, A = some ⟨g, o, none⟩ ∧ g ≠ b ∧ g < w.heap.size ∧ ∀ i (h : i < l.length), EvAt w g (o + i * 5) l[i])
section
variable {w w' : World} {b : Nat} {v : Value} {l : List Ev}
theorem EvsOff.ins (h : EvsOff w b v l) : EvsIn w v l := by
  obtain ⟨A, c, rfl, hc, _, k⟩ := h
  exact ⟨A, c, rfl, hc, fun hp => by obtain ⟨g, o, rfl, _, _, hcell⟩ := k hp; exact ⟨g, o, rfl, hcell⟩⟩
theorem EvsOff.nil (w : World) (b : Nat) : EvsOff w b (.slice none 0 0) [] := ⟨none, 0, rfl, Nat.le_refl _, fun _ => ⟨rfl, rfl⟩, fun h => by simp at h⟩
theorem EvsOff.keep {S : Nat → Prop} (h : EvsOff w b v l) (hO : Only S w w') (hS : ∀ g, g ≠ b → g < w.heap.size → ¬ S g) : EvsOff w' b v l := by
  obtain ⟨A, c, rfl, hc, hn, k⟩ := h
  refine ⟨A, c, rfl, hc, hn, fun hp => ?_⟩
  obtain ⟨g, o, rfl, hg, hgl, hcell⟩ := k hp
  exact ⟨g, o, rfl, hg, Nat.lt_of_lt_of_le hgl hO.size, fun i hi => (hcell i hi).keep (hO.block g hgl (hS g hg hgl))⟩
theorem EvsOff.below (h : EvsOff w b v l) (hb : Below w.heap.size w w') : EvsOff w' b v l := h.keep (S := fun _ => False) (onl_below hb) (fun _ _ _ e => e)
theorem EvsOff.only (h : EvsOff w b v l) (hO : Only (fun k => k = b) w w') : EvsOff w' b v l := h.keep hO (fun _ hg _ e => hg e)
theorem EvsOff.own {base n : Nat} {e : TypeId} (h : w.ownsRow base e 5 v n (flat l)) (hb : b < base) (hl : 0 < l.length) : EvsOff w b v l := by
  obtain ⟨A, c, rfl, hc, k⟩ := EvsIn.of_own h
  refine ⟨A, c, rfl, hc, fun e => by rw [e] at hl; simp at hl, fun hp => ?_⟩
  obtain ⟨g, o, rfl, hcell⟩ := k hp
  have := h.lt g (by simp [Value.ownBlock])
  exact ⟨g, o, rfl, by omega, this.2, hcell⟩
theorem EvsOff.empty (h : EvsOff w b v []) : v = .slice none 0 0 := by
  obtain ⟨A, c, rfl, _, k, _⟩ := h
  obtain ⟨rfl, rfl⟩ := k rfl
  rfl
end
theorem ev_cell {w : World} {g o : Nat} {e : Ev} (h : EvAt w g o e) (f : Nat) (hf : f < 5) : w.cell? ⟨g, o + f, none⟩ = e.cells[f]? := by
  rcases (show f = 0 ∨ f = 1 ∨ f = 2 ∨ f = 3 ∨ f = 4 by omega) with rfl | rfl | rfl | rfl | rfl
  · exact h.k
  · exact h.t
  · exact h.p
  · exact h.c
  · exact h.n
theorem flat_news {w : World} {g o : Nat} {l : List Ev} (h : ∀ i (hi : i < l.length), EvAt w g (o + i * 5) l[i]) : ∀ j u, (flat l)[j]? = some u → w.cell? ((⟨g, o, none⟩ : Addr).add j) = some u := by
  intro j u hj
  have hjl : j < l.length * 5 := by have := (List.getElem?_eq_some_iff.1 hj).1; rwa [flat_len] at this
  have ha : (⟨g, o, none⟩ : Addr).add j = ⟨g, o + j, none⟩ := by unfold Addr.add; split <;> simp_all
  have hi : j / 5 < l.length := by omega
  have := flat_get l (j / 5) (j % 5) hi (by omega)
  rw [show j / 5 * 5 + j % 5 = j by omega, hj] at this
  rw [ha, show o + j = o + j / 5 * 5 + j % 5 by omega, ev_cell (h (j / 5) hi) (j % 5) (by omega), ← this]
theorem flat_ones (l : List Ev) : ∀ c ∈ flat l, c.oneCell' = true := by
  intro c hc
  simp only [flat, List.mem_flatMap] at hc
  obtain ⟨e, _, he⟩ := hc
  exact ev_ones e c he
set_option maxHeartbeats 1600000 in
theorem rtell_any {w : World} {b : Nat} {v : Value} {l : List Ev} (h : EvsOff w b v l) (hb : b < w.heap.size) (hl : l.length ≤ 10000) (e : Ev) :
    Calls Tryd.prog 24 #[v, .agg e.cells] w fun r w' => ∃ v', r = .returned (.tuple #[v', .int .i64 (tellE e)]) ∧ EvsOff w' b v' (tellL l e) ∧ Below w.heap.size w w' := by
  unfold tellE tellL Ev.cells
  by_cases hk : okK e.k
  · rw [if_pos hk, if_pos hk]
    have hk' := hk
    obtain ⟨h0, h1⟩ := hk'
    have hd : decide (e.k < 0) = false := by simp; omega
    have h5 : ¬ 5 < e.k := by omega
    have HFS := Lib.hid (flat_snoc l e)
    have hw1 := below_alloc (w := w) (Nat.le_refl _) (.cells #[.int .i64 e.k, .int .i64 e.t, .int .i64 e.p, .int .i64 e.c, .int .i64 e.n] 23)
    have HB1 := Lib.hid hw1
    have HX1 := Lib.hid (Blk.new w 23 #[.int .i64 e.k, .int .i64 e.t, .int .i64 e.p, .int .i64 e.c, .int .i64 e.n])
    rcases Nat.eq_zero_or_pos l.length with hz | hp
    · obtain rfl := List.eq_nil_of_length_eq_zero hz
      obtain rfl := h.empty
      have hrun : ∀ ty W, (Builtin.append_ #[28, 28] ty #[.slice none 0 0, .slice none 0 0]).run Tryd.prog W = .ok (.slice none 0 0) W := fun ty W => by kernel_rfl
      clear h hw1 hk hz h0 h1
      go_enter Tryd.func24, Tryd.ntmps24
      go_wp2_with (at_builtin; go_loud (refine app_one (W := w.alloc (.cells #[.int .i64 e.k, .int .i64 e.t, .int .i64 e.p, .int .i64 e.c, .int .i64 e.n] 23)) rfl _ _ 28 rfl (w.heap.size + 1) 23 _ 5 40 Tryd.underlying28 infoEv rfl (by decide) (.slice none 0 0) 0 (flat []) rfl (World.ownsRow_nil _ _ _ _) #[.int .i64 e.k, .int .i64 e.t, .int .i64 e.p, .int .i64 e.c, .int .i64 e.n] rfl (by simp [Act.eval]) (ev_ones e) (by omega) (by omega) (by simp) ?_))
      intro v' w3 hown' hbel' _
      have HO3 := Lib.hid (show w3.ownsRow (w.heap.size + 1) 23 5 v' 1 (flat ([] ++ [e])) from by rw [HFS.out]; exact hown')
      have HB3 := Lib.hid (HB1.out.trans (hbel'.mono (by omega)))
      clear hown' hbel'
      go_wp2_with fail
      go_ret2
      exact ⟨_, rfl, EvsOff.own HO3.out (by omega) (by simp), HB3.out⟩
    · have HI := Lib.hid (h.ins.below HB1.out)
      obtain ⟨A, c, rfl, hc, _, k⟩ := h
      obtain ⟨g, o, rfl, hgb, hgl, hcell⟩ := k hp
      have HN := Lib.hid (flat_news (w := w.alloc (.cells #[.int .i64 e.k, .int .i64 e.t, .int .i64 e.p, .int .i64 e.c, .int .i64 e.n] 23)) (g := g) (o := o) (l := l) (fun i hi => (hcell i hi).keep (hw1.block g hgl)))
      obtain ⟨i0, hi0, hz0, hz1, hz2⟩ := info_parts infoEv
      clear k hcell hw1 hk h0 h1 HI
      go_enter Tryd.func24, Tryd.ntmps24
      go_wp2_with (at_builtin; go_loud (refine wpList_append_own (w.alloc (.cells #[.int .i64 e.k, .int .i64 e.t, .int .i64 e.p, .int .i64 e.c, .int .i64 e.n] 23)) rfl _ _ 28 rfl (w.heap.size + 1) 23 i0 _ 5 40 Tryd.underlying28 hi0 hz0 hz1 hz2 rfl (by decide) (.slice none 0 0) 0 [] rfl (World.ownsRow_nil _ _ _ _) ⟨g, o, none⟩ l.length c (flat l) rfl (flat_len l) HN.out (flat_ones l) (by simp [maxLen]; omega) (by omega) (by simp) ?_))
      intro v1 w2 hown hg _
      have HB2 := Lib.hid ((Below.refl (w.heap.size + 1) (w.alloc (.cells #[.int .i64 e.k, .int .i64 e.t, .int .i64 e.p, .int .i64 e.c, .int .i64 e.n] 23))).grown hg (by simp) (fun k hk => by simp [Value.ownBlock] at hk))
      have HX2 := Lib.hid (HX1.out.below HB2.out (by omega))
      have HO2 := Lib.hid (show w2.ownsRow (w.heap.size + 1) 23 5 v1 l.length (flat l) from by simpa using hown)
      have y0 : w2.cell? ⟨w.heap.size, 0, none⟩ = some (.int .i64 e.k) := (HX2.out.cell 0).trans rfl
      have y1 : w2.cell? ⟨w.heap.size, 1, none⟩ = some (.int .i64 e.t) := (HX2.out.cell 1).trans rfl
      have y2 : w2.cell? ⟨w.heap.size, 2, none⟩ = some (.int .i64 e.p) := (HX2.out.cell 2).trans rfl
      have y3 : w2.cell? ⟨w.heap.size, 3, none⟩ = some (.int .i64 e.c) := (HX2.out.cell 3).trans rfl
      have y4 : w2.cell? ⟨w.heap.size, 4, none⟩ = some (.int .i64 e.n) := (HX2.out.cell 4).trans rfl
      have hs2 : w.heap.size + 1 ≤ w2.heap.size := by have := HB2.out.size; simpa using this
      clear hown hg HN
      go_wp2_with (at_builtin; go_loud (refine app_one (W := w2) rfl _ _ 28 rfl (w.heap.size + 1) 23 _ 5 40 Tryd.underlying28 infoEv rfl (by decide) v1 l.length (flat l) rfl HO2.out #[.int .i64 e.k, .int .i64 e.t, .int .i64 e.p, .int .i64 e.c, .int .i64 e.n] rfl (by simp [Act.eval]) (ev_ones e) (by omega) (by omega) hs2 ?_))
      intro v' w3 hown' hbel' _
      have HO3 := Lib.hid (show w3.ownsRow (w.heap.size + 1) 23 5 v' (l.length + 1) (flat (l ++ [e])) from by rw [HFS.out]; exact hown')
      have HB3 := Lib.hid (HB1.out.trans ((HB2.out.trans hbel').mono (by omega)))
      clear hown' hbel'
      go_wp2_with fail
      go_ret2
      exact ⟨_, rfl, EvsOff.own HO3.out (by omega) (by simp), HB3.out⟩
  · rw [if_neg hk, if_neg hk]
    have hw1 := below_alloc (w := w) (Nat.le_refl _) (.cells #[.int .i64 e.k, .int .i64 e.t, .int .i64 e.p, .int .i64 e.c, .int .i64 e.n] 23)
    have HV := Lib.hid (h.below hw1)
    have HB := Lib.hid hw1
    clear h hw1
    by_cases h0 : e.k < 0
    · have hd : decide (e.k < 0) = true := by simp [h0]
      clear hk
      go_enter Tryd.func24, Tryd.ntmps24
      go_wp2
      go_ret2
      exact ⟨_, rfl, HV.out, HB.out⟩
    · have hd : decide (e.k < 0) = false := by simp [h0]
      have h5 : 5 < e.k := by unfold okK at hk; omega
      clear hk h0
      go_enter Tryd.func24, Tryd.ntmps24
      go_wp2
      go_ret2
      exact ⟨_, rfl, HV.out, HB.out⟩
theorem rlast_any {w : World} {b : Nat} {v : Value} {l : List Ev} (h : EvsOff w b v l) (hl : l.length ≤ 10000) :
    Calls Tryd.prog 27 #[v] w fun r w' => ∃ v', r = .returned v' ∧ EvsIn w v' (lastOf l) ∧ w = w' := by
  have hll := lastOf_len l
  obtain ⟨A, c, rfl, hc, hn, k⟩ := h
  rcases Nat.eq_zero_or_pos l.length with hz | hp
  · obtain rfl := List.eq_nil_of_length_eq_zero hz
    obtain ⟨rfl, rfl⟩ := hn rfl
    clear k hn hll hz hl
    go_enter Tryd.func27, Tryd.ntmps27
    go_wp2
    go_ret
    exact ⟨_, rfl, EvsIn.nil w, rfl⟩
  · obtain ⟨g, o, rfl, hgb, hgl, hcell⟩ := k hp
    clear k hn
    have hE : EvsIn w (.slice (some ⟨g, o + goneOf l * 5, none⟩) (l.length - goneOf l) (c - goneOf l)) (lastOf l) := by
      refine ⟨some ⟨g, o + goneOf l * 5, none⟩, c - goneOf l, by rw [hll], by omega, fun _ => ⟨g, o + goneOf l * 5, rfl, fun i hi => ?_⟩⟩
      have e1 := lastOf_get l i hi
      rw [e1]
      have := hcell (goneOf l + i) (by omega)
      rw [show o + goneOf l * 5 + i * 5 = o + (goneOf l + i) * 5 by omega]
      exact this
    have hd' : goneOf l = l.length - 64 := rfl
    generalize goneOf l = d at *
    have hne : (c : Nat) ≠ d := by omega
    have hdl : (d : Int) ≤ (l.length : Int) := by omega
    have hd0 : (0 : Int) ≤ (d : Int) := by omega
    have hdi : max ((l.length : Int) - 64) 0 = (d : Int) := by omega
    have HE := Lib.hid hE
    clear hE hd' hll hcell hgb hgl
    go_enter Tryd.func27, Tryd.ntmps27
    go_wp2
    go_ret
    exact ⟨_, rfl, HE.out, rfl⟩
set_option maxHeartbeats 1600000 in
theorem rof_any {w : World} {b : Nat} {v : Value} {l : List Ev} (h : EvsOff w b v l) (hl : l.length ≤ 10000) (p : Int) :
    Calls Tryd.prog 26 #[v, .int .i64 p] w fun r w' => ∃ v', r = .returned v' ∧ EvsIn w' v' (ofP l p) ∧ Below w.heap.size w w' := by
  have HLA := Lib.hid (rlast_any h hl)
  obtain ⟨L, hL⟩ : ∃ L, L = lastOf l := ⟨_, rfl⟩
  have h64 : L.length ≤ 64 := by rw [hL, lastOf_len']; omega
  obtain ⟨Av, cv, rfl⟩ := h.ins.form
  unfold ofP
  rw [← hL] at HLA ⊢
  clear h hL hl
  go_enter Tryd.func26, Tryd.ntmps26
  go_wp2_with fail
  refine HLA.out.mono ?_
  rintro r w1 ⟨va, rfl, hE, rfl⟩
  have HE := Lib.hid hE
  obtain ⟨Aa, ca, rfl⟩ := hE.form
  clear hE HLA
  go_wp2_with fail
  go_loopw [5, 7] (fun v i wr => ∃ k : Nat, k ≤ L.length ∧ i = .int .i64 k ∧ wr.ownsRow w.heap.size 23 5 v ((L.take k).filter (inP p)).length (flat ((L.take k).filter (inP p))) ∧ Below w.heap.size w wr) (fun _ i _ => L.length - (intOf i).toNat)
  case atStart => exact ⟨0, Nat.zero_le _, rfl, ⟨by simp [flat], Or.inl ⟨rfl, rfl⟩⟩, Below.refl _ _⟩
  case round =>
    obtain ⟨k, hk, rfl, hown, hbel⟩ := hrel
    obtain ⟨A, c, rfl⟩ := own_form hown
    have HO := Lib.hid hown
    have HBB := Lib.hid hbel
    clear hown
    by_cases hlt : k < L.length
    · have hEw := HE.out.below hbel
      obtain ⟨A', c', e1, e2, e3⟩ := hEw
      injection e1 with q1 q2 q3
      subst q1 q3
      obtain ⟨g, o, rfl, hcell⟩ := e3 (by omega)
      have hev := hcell k hlt
      have HF := Lib.hid (filter_next L p k hlt)
      have hfl : ((L.take k).filter (inP p)).length ≤ 64 := Nat.le_trans (List.length_filter_le _ _) (by simp; omega)
      generalize L[k] = e at *
      generalize (L.take k).filter (inP p) = F at *
      obtain ⟨x0, x1, x2, x3, x4⟩ := hev
      have b0 : (0 : Int) ≤ (k : Int) := by omega
      have b1 : (k : Int) < (L.length : Int) := by omega
      have hsz := hbel.size
      clear hcell hbel q2 e2 e3
      by_cases hp : e.p = p
      · have hq : (e.p == p) = true := by simp [hp]
        have HH := Lib.hid hp
        clear hp
        go_wp2_with (at_builtin; go_loud (refine app_one (W := wr) rfl _ _ 28 rfl w.heap.size 23 _ 5 40 Tryd.underlying28 infoEv rfl (by decide) (.slice A F.length c) F.length (flat F) rfl HO.out #[.int .i64 e.k, .int .i64 e.t, .int .i64 e.p, .int .i64 e.c, .int .i64 e.n] rfl (by simp [Act.eval]) (ev_ones e) (by omega) (by omega) hsz ?_))
        intro v' w3 hown' hbel' _
        have HO3 := Lib.hid (show w3.ownsRow w.heap.size 23 5 v' ((L.take (k + 1)).filter (inP p)).length (flat ((L.take (k + 1)).filter (inP p))) from by
          rw [HF.out, if_pos HH.out, flat_snoc, List.length_append]; exact hown')
        have HB3 := Lib.hid (HBB.out.trans hbel')
        clear hown' hbel'
        go_wp2_with fail
        go_roundw
        case rel => exact ⟨k + 1, by omega, by go_num, HO3.out, HB3.out⟩
        case measure => simp [intOf]; omega
      · have hq : (e.p == p) = false := by simp [hp]
        have HH := Lib.hid hp
        clear hp
        go_wp2_with fail
        go_roundw
        case rel =>
          refine ⟨k + 1, by omega, by go_num, ?_, HBB.out⟩
          rw [HF.out, if_neg HH.out, List.append_nil]
          exact HO.out
        case measure => simp [intOf]; omega
    · obtain rfl : k = L.length := by omega
      simp only [List.take_length] at HO ⊢
      have HE2 := Lib.hid (EvsIn.of_own HO.out)
      go_wp2_with fail
      go_ret
      exact ⟨_, rfl, HE2.out, HBB.out⟩
theorem count_next (l : List Ev) (x : Int) (k : Nat) (h : k < l.length) : cntK (l.take (k + 1)) x = cntK (l.take k) x + if l[k].k = x then 1 else 0 := by
  rw [List.take_succ_eq_append_getElem h, cntK_snoc]
set_option maxHeartbeats 1600000 in
theorem rcount_any {w : World} {b : Nat} {v : Value} {l : List Ev} (h : EvsOff w b v l) (hl : l.length ≤ 10000) (x : Int) :
    Calls Tryd.prog 25 #[v, .int .i64 x] w fun r w' => r = .returned (.int .i64 (cntK l x)) ∧ w = w' := by
  obtain ⟨A, c, rfl, hc, k⟩ := h.ins
  have K := Lib.hid k
  clear k h
  go_enter Tryd.func25, Tryd.ntmps25
  go_wp2_with fail
  go_loopw [5, 6] (fun n i wr => ∃ k : Nat, k ≤ l.length ∧ i = .int .i64 k ∧ n = .int .i64 (cntK (l.take k) x) ∧ wr = w) (fun _ i _ => l.length - (intOf i).toNat)
  case atStart => exact ⟨0, Nat.zero_le _, rfl, rfl, rfl⟩
  case round =>
    obtain ⟨k, hk, rfl, rfl, rfl⟩ := hrel
    by_cases hlt : k < l.length
    · obtain ⟨g, o, rfl, hcell⟩ := K.out (by omega)
      have hev := (hcell k hlt).k
      have HN := Lib.hid (count_next l x k hlt)
      have hle : cntK (l.take k) x ≤ 10000 := Nat.le_trans (cntK_le _ _) (by simp; omega)
      generalize l[k] = e at *
      generalize cntK (l.take k) x = n at *
      have b0 : (0 : Int) ≤ (k : Int) := by omega
      have b1 : (k : Int) < (l.length : Int) := by omega
      clear hcell
      by_cases hp : e.k = x
      · have hq : (e.k == x) = true := by simp [hp]
        have HH := Lib.hid hp
        clear hp
        go_wp2_with fail
        go_roundw
        case rel => exact ⟨k + 1, by omega, by go_num, by rw [HN.out, if_pos HH.out]; go_num, by first | rfl | trivial⟩
        case measure => simp [intOf]; omega
      · have hq : (e.k == x) = false := by simp [hp]
        have HH := Lib.hid hp
        clear hp
        go_wp2_with fail
        go_roundw
        case rel => exact ⟨k + 1, by omega, by go_num, by rw [HN.out, if_neg HH.out]; go_num, by first | rfl | trivial⟩
        case measure => simp [intOf]; omega
    · obtain rfl : k = l.length := by omega
      rw [List.take_length]
      go_wp2_with fail
      go_ret
      exact ⟨rfl, rfl⟩
theorem countL_eq {l : List Ev} (h : ∀ e ∈ l, okK e.k) (x : Int) : countL l x = cntK l x := by
  unfold countL
  split
  · rfl
  · next hx =>
    symm
    unfold cntK
    rw [List.countP_eq_zero]
    intro e he
    simp only [isK, decide_eq_true_eq]
    rintro rfl
    exact hx (h e he)
end Go.Proofs.YtbnaehfgpilicaaDoor
