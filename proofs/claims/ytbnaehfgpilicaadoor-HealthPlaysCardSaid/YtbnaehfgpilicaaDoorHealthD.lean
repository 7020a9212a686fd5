/- A log: New, Of, Last. -/
import Derived.Test.YtbnaehfgpilicaaDoorHealthC
import Derived.Test.YtbnaehfgpilicaaDoorWide
namespace Go.Proofs.YtbnaehfgpilicaaDoor
open Go.RowKit

def zeros327 : Array Value := ((List.range 327).map fun _ => Value.int .i64 0).toArray
theorem zeroLog (w : World) : (zeroValue 57).run Tryd.prog w = .ok (.agg zeros327) w := by kernel_rfl
theorem zeros_get (j : Nat) (hj : j < 327) : zeros327[j]? = some (.int .i64 0) := by
  simp only [zeros327, List.getElem?_toArray, List.getElem?_map, List.getElem?_range hj, Option.map_some]
theorem zeros_ne : (zeros327 = #[]) = False := by
  simp only [eq_iff_iff, iff_false]
  intro h
  have := zeros_get 0 (by omega)
  rw [h] at this
  simp at this
attribute [local go_sem] zeroLog zeros_ne
theorem log_zero {w : World} {b : Nat} (h : Blk w b 57 zeros327) : LogAt w b [] := by
  have hc := fun i (hi : i < 327) => (h.cell i).trans (zeros_get i hi)
  refine ⟨fun i hi => ⟨⟨0, 0, 0, 0, 0⟩, hc _ (by omega), hc _ (by omega), hc _ (by omega), hc _ (by omega), hc _ (by omega)⟩, fun j hj => by simp at hj, hc _ (by omega), fun k hk => by rw [hc _ (by omega)]; rfl, h.fr⟩
theorem new_any (w : World) : Calls Tryd.prog 14 #[] w fun r w' => r = .returned (.pointer (some ⟨w.heap.size, 0, none⟩)) ∧ LogAt w' w.heap.size [] ∧ Below w.heap.size w w' := by
  have hP := Lib.hid (log_zero (Blk.new w 57 zeros327))
  have hB := Lib.hid (below_alloc (w := w) (Nat.le_refl _) (.cells zeros327 57))
  go_enter Tryd.func14, Tryd.ntmps14
  go_wp2
  go_ret
  exact ⟨rfl, hP.out, hB.out⟩
theorem filter_next (l : List Ev) (p : Int) (k : Nat) (h : k < l.length) : (l.take (k + 1)).filter (inP p) = (l.take k).filter (inP p) ++ if l[k].p = p then [l[k]] else [] := by
  rw [List.take_succ_eq_append_getElem h, List.filter_append, List.filter_cons]
  simp [inP]
set_option maxHeartbeats 1600000 in
theorem of_any {w : World} {b : Nat} {l : List Ev} (h : LogAt w b l) (hl : l.length ≤ 100000) (p : Int) :
    Calls Tryd.prog 23 #[.pointer (some ⟨b, 0, none⟩), .int .i64 p] w fun r w' => ∃ v, r = .returned v ∧ w'.ownsRow w.heap.size 23 5 v (ofP l p).length (flat (ofP l p)) ∧ Below w.heap.size w w' := by
  have HA := Lib.hid (all_any h hl)
  obtain ⟨L, hL⟩ : ∃ L, L = lastOf l := ⟨_, rfl⟩
  have h64 : L.length ≤ 64 := by rw [hL, lastOf_len']; omega
  unfold ofP
  rw [← hL] at HA ⊢
  clear h hL hl
  go_enter Tryd.func23, Tryd.ntmps23
  go_wp2_with fail
  refine HA.out.mono ?_
  rintro r w1 ⟨va, rfl, ho, hb⟩
  have hE := EvsIn.of_own ho
  have HE := Lib.hid hE
  obtain ⟨Aa, ca, rfl⟩ := hE.form
  have HB := Lib.hid hb
  have hs1 := hb.size
  clear ho hb hE HA
  go_wp2_with fail
  go_loopw [5, 11] (fun v i wr => ∃ k : Nat, k ≤ L.length ∧ i = .int .i64 k ∧ wr.ownsRow w1.heap.size 23 5 v ((L.take k).filter (inP p)).length (flat ((L.take k).filter (inP p))) ∧ Below w1.heap.size w1 wr) (fun _ i _ => L.length - (intOf i).toNat)
  case atStart => exact ⟨0, Nat.zero_le _, rfl, ⟨by simp [flat], Or.inl ⟨rfl, rfl⟩⟩, Below.refl _ _⟩
  case round =>
    obtain ⟨k, hk, rfl, hown, hbel⟩ := hrel
    obtain ⟨A, c, rfl⟩ := own_form hown
    have HO := Lib.hid hown
    have HBB := Lib.hid hbel
    clear hown
    by_cases hlt : k < L.length
    · have hEw := HE.out.below hbel
      obtain ⟨A', c', e1, e2, e3⟩ := hEw
      injection e1 with q1 q2 q3
      subst q1 q3
      obtain ⟨g, o, rfl, hcell⟩ := e3 (by omega)
      have hev := hcell k hlt
      have HF := Lib.hid (filter_next L p k hlt)
      have hfl : ((L.take k).filter (inP p)).length ≤ 64 := Nat.le_trans (List.length_filter_le _ _) (by simp; omega)
      generalize L[k] = e at *
      generalize (L.take k).filter (inP p) = F at *
      obtain ⟨x0, x1, x2, x3, x4⟩ := hev
      have b0 : (0 : Int) ≤ (k : Int) := by omega
      have b1 : (k : Int) < (L.length : Int) := by omega
      have hsz := hbel.size
      clear hcell hbel q2 e2 e3
      by_cases hp : e.p = p
      · have hq : (e.p == p) = true := by simp [hp]
        have HH := Lib.hid hp
        clear hp
        go_wp2_with (at_builtin; go_loud (refine app_one (W := wr.alloc (.cells #[.int .i64 e.k, .int .i64 e.t, .int .i64 e.p, .int .i64 e.c, .int .i64 e.n] 23)) rfl _ _ 28 rfl w1.heap.size 23 _ 5 40 Tryd.underlying28 infoEv rfl (by decide) (.slice A F.length c) F.length (flat F) rfl (HO.out.alloc _) #[.int .i64 e.k, .int .i64 e.t, .int .i64 e.p, .int .i64 e.c, .int .i64 e.n] rfl (by simp [Act.eval]) (ev_ones e) (by omega) (by omega) (by simp; omega) ?_))
        intro v' w3 hown' hbel' _
        have HO3 := Lib.hid (show w3.ownsRow w1.heap.size 23 5 v' ((L.take (k + 1)).filter (inP p)).length (flat ((L.take (k + 1)).filter (inP p))) from by
          rw [HF.out, if_pos HH.out, flat_snoc, List.length_append]; exact hown')
        have HB3 := Lib.hid ((HBB.out.alloc hsz (.cells #[.int .i64 e.k, .int .i64 e.t, .int .i64 e.p, .int .i64 e.c, .int .i64 e.n] 23)).trans hbel')
        clear hown' hbel'
        go_wp2_with fail
        go_roundw
        case rel => exact ⟨k + 1, by omega, by go_num, HO3.out, HB3.out⟩
        case measure => simp [intOf]; omega
      · have hq : (e.p == p) = false := by simp [hp]
        have HH := Lib.hid hp
        clear hp
        go_wp2_with fail
        go_roundw
        case rel =>
          refine ⟨k + 1, by omega, by go_num, ?_, HBB.out.alloc hsz _⟩
          rw [HF.out, if_neg HH.out, List.append_nil]
          exact HO.out.alloc _
        case measure => simp [intOf]; omega
    · obtain rfl : k = L.length := by omega
      simp only [List.take_length] at HO ⊢
      go_wp2_with fail
      go_ret
      exact ⟨_, rfl, ownsRow_mono HO.out hs1, HB.out.trans (HBB.out.mono hs1)⟩
theorem evSize : (Tryd.prog.info? 23).map (·.size) = some 5 := by kernel_rfl
def ev0 : Ev := ⟨0, 0, 0, 0, 0⟩
theorem last_none (v : Option Nat) (w : World) (h : ∀ b, v = some b → LogAt w b []) :
    Calls Tryd.prog 17 #[.pointer (v.map fun b => ⟨b, 0, none⟩)] w fun r w' => r = .returned (.tuple #[.agg ev0.cells, .bool false]) ∧ Below w.heap.size w w' := by
  have hb := below_alloc (w := w) (Nat.le_refl _) (.cells #[.int .i64 0, .int .i64 0, .int .i64 0, .int .i64 0, .int .i64 0] 23)
  have HB := Lib.hid hb
  cases v with
  | none =>
    clear h hb
    go_enter Tryd.func17, Tryd.ntmps17
    go_wp2_with fail
    refine (told_nil _).mono ?_
    rintro r w1 ⟨rfl, rfl⟩
    go_wp2_with fail
    exact bodyPost_ret (v := .tuple #[.agg #[.int .i64 0, .int .i64 0, .int .i64 0, .int .i64 0, .int .i64 0], .bool false]) (by simp [results, Tryd.results17, go_sem]) rfl ⟨rfl, HB.out⟩
  | some b =>
    have HT := Lib.hid (told_any (LogG.below (h b rfl) hb (h b rfl).lt))
    clear h hb
    go_enter Tryd.func17, Tryd.ntmps17
    go_wp2_with fail
    refine HT.out.mono ?_
    rintro r w1 ⟨rfl, rfl⟩
    go_wp2_with fail
    exact bodyPost_ret (v := .tuple #[.agg #[.int .i64 0, .int .i64 0, .int .i64 0, .int .i64 0, .int .i64 0], .bool false]) (by simp [results, Tryd.results17, go_sem]) rfl ⟨rfl, HB.out⟩
set_option maxHeartbeats 1600000 in
theorem last_some {w : World} {b : Nat} {l : List Ev} (h : LogAt w b l) (hl : l.length ≤ 100000) (e : Ev) (hne : 0 < l.length) (he : l[l.length - 1] = e) :
    Calls Tryd.prog 17 #[.pointer (some ⟨b, 0, none⟩)] w fun r w' => r = .returned (.tuple #[.agg e.cells, .bool true]) ∧ Below w.heap.size w w' := by
  have hlt := h.lt
  obtain ⟨w1, hw⟩ : ∃ w1, w1 = w.alloc (.cells #[.int .i64 0, .int .i64 0, .int .i64 0, .int .i64 0, .int .i64 0] 23) := ⟨_, rfl⟩
  have hB : Below w.heap.size w w1 := hw ▸ below_alloc (Nat.le_refl _) _
  have hx : Blk w1 w.heap.size 23 #[.int .i64 0, .int .i64 0, .int .i64 0, .int .i64 0, .int .i64 0] := hw ▸ Blk.new w _ _
  have hP := LogG.below h hB hlt
  have hev := hP.ev (l.length - 1) (by omega) (by omega)
  rw [he] at hev
  have c0 := hP.told
  have HT := Lib.hid (told_any hP)
  obtain ⟨m, hm⟩ : ∃ m, m = (l.length - 1) % 64 := ⟨_, rfl⟩
  rw [← hm] at hev
  have m64 : (m : Int) < 64 := by omega
  have m0 : (0 : Int) ≤ (m : Int) := by omega
  have hs1 : (0 : Int) ≤ (l.length : Int) - 1 := by omega
  have ht : ((l.length : Int) - 1).tmod 64 = (m : Int) := by rw [Int.tmod_eq_emod_of_nonneg hs1]; omega
  have ht' : ((l.length : Int) - 1) % 64 = (m : Int) := by omega
  have w0 : IntKind.i64.wrap (m : Int) = (m : Int) := by rw [IntKind.wrap_i64]; omega
  have hs0 : IntKind.i64.wrap ((l.length : Int) - 1) = (l.length : Int) - 1 := by rw [IntKind.wrap_i64]; omega
  have hnz : ((l.length : Int) == 0) = false := beq_eq_false_iff_ne.2 (by omega)
  obtain ⟨x0, x1, x2, x3, x4⟩ := hev
  have HB := Lib.hid hB
  have HX := Lib.hid hx
  have y0 : w1.cell? ⟨w.heap.size, 0, none⟩ = some (.int .i64 0) := (hx.cell 0).trans rfl
  have y1 : w1.cell? ⟨w.heap.size, 1, none⟩ = some (.int .i64 0) := (hx.cell 1).trans rfl
  have y2 : w1.cell? ⟨w.heap.size, 2, none⟩ = some (.int .i64 0) := (hx.cell 2).trans rfl
  have y3 : w1.cell? ⟨w.heap.size, 3, none⟩ = some (.int .i64 0) := (hx.cell 3).trans rfl
  have y4 : w1.cell? ⟨w.heap.size, 4, none⟩ = some (.int .i64 0) := (hx.cell 4).trans rfl
  have f0 := hx.fr 0
  have f1 := hx.fr 1
  have f2 := hx.fr 2
  have f3 := hx.fr 3
  have f4 := hx.fr 4
  have HXF := Lib.hid (show Blk (put5 w1 w.heap.size 0 e).drew w.heap.size 23 e.cells from ((((hx.set 0 (.int .i64 e.k)).set 1 (.int .i64 e.t)).set 2 (.int .i64 e.p)).set 3 (.int .i64 e.c)).set 4 (.int .i64 e.n))
  have HBF := Lib.hid (show Below w.heap.size w (put5 w1 w.heap.size 0 e).drew from (((((hB.setCell (p := ⟨_, 0, none⟩) (Nat.le_refl _) _).setCell (p := ⟨_, 1, none⟩) (Nat.le_refl _) _).setCell (p := ⟨_, 2, none⟩) (Nat.le_refl _) _).setCell (p := ⟨_, 3, none⟩) (Nat.le_refl _) _).setCell (p := ⟨_, 4, none⟩) (Nat.le_refl _) _).drew)
  have HW := Lib.hid hw
  clear h hm hP hB hx hw he
  unfold Ev.cells
  go_enter Tryd.func17, Tryd.ntmps17
  go_wp2_with fail
  rw [← HW.out]
  refine HT.out.mono ?_
  rintro r w2 ⟨rfl, rfl⟩
  go_wp2_with fail
  go_still_tail 11, (by kernel_rfl)
  change wpList _ _ _ _ _ w1.drew
  go_wp2
  refine bodyPost_ret (res_c2 rfl _ rfl HXF.out Tryd.underlying23 rfl evSize) rfl ⟨rfl, HBF.out⟩
end Go.Proofs.YtbnaehfgpilicaaDoor
